/- Part 2 of the proof of rtrees_card; no conditions. -/
import Derived.Test.YtgcfjkfipkfijaaGreatDoorTr01
import Derived.Shelf.Strings.Builder1
import Derived.Shelf.Strings.Builder2
import Derived.Shelf.Strings.OnBuilder
import Derived.Shelf.Small.Strs
import Derived.Shelf.Strings.BuilderF
import Derived.Shelf.Strings.BuilderK
import Derived.Shelf.Utf8.RuneCount
import Derived.Shelf.Strconv.Itoa0
import Derived.Shelf.Strconv.Itoa1
import Derived.Shelf.LaysM
import Derived.Shelf.Strconv.Itoa2
import Derived.Shelf.Strconv.Itoa3
import Derived.Shelf.Strings.Search1
import Derived.Shelf.Strings.Search2
import Derived.Shelf.Strings.Cut
import Derived.Shelf.Strings.Shaped
import Derived.Shelf.Unicode.DecodeSlow
import Derived.Shelf.Unicode.DecodeAny
import Derived.Shelf.Slices.Turned
import Derived.Shelf.Slices.Equal
import Derived.Shelf.Slices.Empties2
import Derived.Shelf.Unicode.ValidAny
import Derived.Test.YtgcfjkfipkfijaaGreatDoorProg
import Derived.Tactics
import Derived.WalkKit
import Derived.KernelRfl
import Derived.LoopTactic
import Derived.Deep.QuietTactic
import Derived.BigQuiet
import Derived.Outline
import Derived.Lib.Hide
set_option maxHeartbeats 400000
namespace Go.Proofs
open Go.Shelf
def Tryz.lays156_ren:Go.Shelf.Ren:=⟨fun | 156=>113 | 165=>124 | 166=>65 | 169=>68 | 240=>96 | 241=>139 | 276=>111 | 277=>157 | n=>n,fun | 31=>37 | 9=>9 | 3=>3 | 4=>4 | 0=>0 | 20=>20 | 72=>110 | 76=>115 | 70=>107 | 37=>108 | 75=>114 | 127=>136 | 164=>147 | 5=>5 | 80=>118 | n=>n,fun | n=>n⟩
theorem Tryz.lays156:Go.Proofs.Lays.n156 Tryz.prog Tryz.lays156_ren:={
 mixed:=by kernel_rfl
 f156:=Tryz.func113.trans (congrArg some (by kernel_rfl))
 f165:=Tryz.func124.trans (congrArg some (by kernel_rfl))
 f166:=Tryz.func65.trans (congrArg some (by kernel_rfl))
 f169:=Tryz.func68.trans (congrArg some (by kernel_rfl))
 f240:=Tryz.func96.trans (congrArg some (by kernel_rfl))
 f241:=Tryz.func139.trans (congrArg some (by kernel_rfl))
 f276:=Tryz.func111.trans (congrArg some (by kernel_rfl))
 f277:=Tryz.func157.trans (congrArg some (by kernel_rfl))
 t0:=Tryz.underlying0
 a0:=Tryz.isAgg0
 z0:=Tryz.sizeOf0
 v0:=Tryz.zeroValue0
 t3:=Tryz.underlying3
 a3:=Tryz.isAgg3
 z3:=Tryz.sizeOf3
 v3:=Tryz.zeroValue3
 t4:=Tryz.underlying4
 a4:=Tryz.isAgg4
 z4:=Tryz.sizeOf4
 v4:=Tryz.zeroValue4
 t9:=Tryz.underlying9
 a9:=Tryz.isAgg9
 z9:=Tryz.sizeOf9
 v9:=Tryz.zeroValue9
 t20:=Tryz.underlying20
 a20:=Tryz.isAgg20
 z20:=Tryz.sizeOf20
 v20:=Tryz.zeroValue20
 t31:=Tryz.underlying37
 a31:=Tryz.isAgg37
 z31:=Tryz.sizeOf37
 v31:=Tryz.zeroValue37
 t37:=Tryz.underlying108
 a37:=Tryz.isAgg108
 z37:=Tryz.sizeOf108
 v37:=Tryz.zeroValue108
 t70:=Tryz.underlying107
 a70:=Tryz.isAgg107
 z70:=Tryz.sizeOf107
 v70:=Tryz.zeroValue107
 t72:=Tryz.underlying110
 a72:=Tryz.isAgg110
 z72:=Tryz.sizeOf110
 v72:=Tryz.zeroValue110
 t75:=Tryz.underlying114
 a75:=Tryz.isAgg114
 z75:=Tryz.sizeOf114
 v75:=Tryz.zeroValue114
 t76:=Tryz.underlying115
 a76:=Tryz.isAgg115
 z76:=Tryz.sizeOf115
 v76:=Tryz.zeroValue115
 t127:=Tryz.underlying136
 a127:=Tryz.isAgg136
 z127:=Tryz.sizeOf136
 v127:=Tryz.zeroValue136
 t164:=Tryz.underlying147
 a164:=Tryz.isAgg147
 z164:=Tryz.sizeOf147
 v164:=Tryz.zeroValue147 }
theorem Tryz.Builder_Extra_156:Builder.Extra Tryz.prog Tryz.lays156_ren:={
 sizeBuilder:=by kernel_rfl
 liesBuilder:=by kernel_rfl
 t5:=Tryz.underlying5
 a5:=Tryz.isAgg5
 z5:=Tryz.sizeOf5
 v5:=Tryz.zeroValue5
 infoByte:=by kernel_rfl
 cellsByte:=by kernel_rfl
 sizeByte:=by kernel_rfl
 neB5:=by decide }
open Go.RowKit in
theorem Tryz.strings_Join_none (a:Option Addr) (c:Nat) (sep:ByteArray) (w:World) :
  Calls Tryz.prog 113 #[.slice a 0 c,.string sep] w fun e w'=>e=.returned (.string ⟨#[]⟩)∧w'=w:=Any.strings_Join_none Tryz.lays156 Tryz.Builder_Extra_156 a c sep w
open Go.RowKit in
theorem Tryz.strings_Join (bk o c:Nat) (xs:List ByteArray) (sep:ByteArray) (w:World) (hcells:∀(j:Nat) x,xs[j]? = some x→w.cell? ⟨bk,o+j,none⟩=some (.string x)) (hbk:bk<w.heap.size) (hN:xs.length≤140737488355328) (hcap:xs.length≤c) (hlen:(Lib.join (xs.map (·.data.toList)) sep.data.toList).length≤140737488355328) :
  Calls Tryz.prog 113 #[.slice (some ⟨bk,o,none⟩) xs.length c,.string sep] w fun e w'=>e=.returned (.string ⟨(Lib.join (xs.map (·.data.toList)) sep.data.toList).toArray⟩)∧Below w.heap.size w w':=Any.strings_Join Tryz.lays156 Tryz.Builder_Extra_156 bk o c xs sep w hcells hbk hN hcap hlen
def Tryz.lays137_ren:Go.Shelf.Ren:=⟨fun | 137=>75 | 217=>106 | 266=>119 | n=>n,fun | 9=>9 | 5=>5 | 3=>3 | n=>n,fun | n=>n⟩
theorem Tryz.lays137:Go.Proofs.Lays.n137 Tryz.prog Tryz.lays137_ren:={
 mixed:=by kernel_rfl
 f137:=Tryz.func75.trans (congrArg some (by kernel_rfl))
 f217:=Tryz.func106.trans (congrArg some (by kernel_rfl))
 f266:=Tryz.func119.trans (congrArg some (by kernel_rfl))
 t3:=Tryz.underlying3
 a3:=Tryz.isAgg3
 z3:=Tryz.sizeOf3
 v3:=Tryz.zeroValue3
 t5:=Tryz.underlying5
 a5:=Tryz.isAgg5
 z5:=Tryz.sizeOf5
 v5:=Tryz.zeroValue5
 t9:=Tryz.underlying9
 a9:=Tryz.isAgg9
 z9:=Tryz.sizeOf9
 v9:=Tryz.zeroValue9 }
open Go.RowKit in
theorem Tryz.strings_IndexByte (s:ByteArray) (c:Int) (w:World) :
  Calls Tryz.prog 75 #[.string s,.int .u8 c] w fun e w'=>e=.returned (.int .i64 (Lib.indexByte s.data.toList c.toNat.toUInt8))∧w'=w:=Any.strings_IndexByte Tryz.lays137 s c w
def Tryz.lays195_ren:Go.Shelf.Ren:=⟨fun | 195=>77 | n=>n,fun | 9=>9 | 3=>3 | 0=>0 | 4=>4 | n=>n,fun | n=>n⟩
theorem Tryz.lays195:Go.Proofs.Lays.n195 Tryz.prog Tryz.lays195_ren:={
 mixed:=by kernel_rfl
 f195:=Tryz.func77.trans (congrArg some (by kernel_rfl))
 t0:=Tryz.underlying0
 a0:=Tryz.isAgg0
 z0:=Tryz.sizeOf0
 v0:=Tryz.zeroValue0
 t3:=Tryz.underlying3
 a3:=Tryz.isAgg3
 z3:=Tryz.sizeOf3
 v3:=Tryz.zeroValue3
 t4:=Tryz.underlying4
 a4:=Tryz.isAgg4
 z4:=Tryz.sizeOf4
 v4:=Tryz.zeroValue4
 t9:=Tryz.underlying9
 a9:=Tryz.isAgg9
 z9:=Tryz.sizeOf9
 v9:=Tryz.zeroValue9 }
open Go.RowKit in
theorem Tryz.utf8_RuneCountInString (s:ByteArray) (w:World) (hs:s.size<9223372036854775807) :
  Calls Tryz.prog 77 #[.string s] w fun e w'=>e=.returned (.int .i64 (Lib.runeCount s))∧∃pos,w'=w.iter s pos:=Any.utf8_RuneCountInString Tryz.lays195 s w hs
def Tryz.laysM171_ren:Go.Shelf.Ren:=⟨fun | 171=>97 | 243=>112 | 246=>123 | 283=>135 | 284=>136 | 285=>137 | 286=>138 | 129=>153 | 317=>152 | 318=>154 | 319=>155 | 320=>156 | 337=>165 | 338=>166 | n=>n,fun | 3=>3 | 9=>9 | 2=>2 | 4=>4 | 171=>170 | 0=>0 | 53=>141 | 37=>108 | 5=>5 | 173=>173 | 212=>179 | 51=>180 | 20=>20 | 213=>181 | 46=>155 | 232=>189 | 233=>190 | n=>n,fun | 17=>3 | 18=>4 | 19=>5 | n=>n⟩
theorem Tryz.laysM171:Go.Proofs.LaysM.n171 Tryz.prog Tryz.laysM171_ren:={
 mixed:=by kernel_rfl
 f129:=Tryz.func153.trans (congrArg some (by kernel_rfl))
 f171:=Tryz.func97.trans (congrArg some (by kernel_rfl))
 f243:=Tryz.func112.trans (congrArg some (by kernel_rfl))
 f246:=Tryz.func123.trans (congrArg some (by kernel_rfl))
 f283:=Tryz.func135.trans (congrArg some (by kernel_rfl))
 f284:=Tryz.func136.trans (congrArg some (by kernel_rfl))
 f285:=Tryz.func137.trans (congrArg some (by kernel_rfl))
 f286:=Tryz.func138.trans (congrArg some (by kernel_rfl))
 f317:=Tryz.func152.trans (congrArg some (by kernel_rfl))
 f318:=Tryz.func154.trans (congrArg some (by kernel_rfl))
 f319:=Tryz.func155.trans (congrArg some (by kernel_rfl))
 f320:=Tryz.func156.trans (congrArg some (by kernel_rfl))
 f337:=Tryz.func165.trans (congrArg some (by kernel_rfl))
 f338:=Tryz.func166.trans (congrArg some (by kernel_rfl))
 t0:=Tryz.underlying0
 a0:=Tryz.isAgg0
 z0:=Tryz.sizeOf0
 v0:=Tryz.zeroValue0
 t2:=Tryz.underlying2
 a2:=Tryz.isAgg2
 z2:=Tryz.sizeOf2
 v2:=Tryz.zeroValue2
 t3:=Tryz.underlying3
 a3:=Tryz.isAgg3
 z3:=Tryz.sizeOf3
 v3:=Tryz.zeroValue3
 t4:=Tryz.underlying4
 a4:=Tryz.isAgg4
 z4:=Tryz.sizeOf4
 v4:=Tryz.zeroValue4
 t5:=Tryz.underlying5
 a5:=Tryz.isAgg5
 z5:=Tryz.sizeOf5
 v5:=Tryz.zeroValue5
 t9:=Tryz.underlying9
 a9:=Tryz.isAgg9
 z9:=Tryz.sizeOf9
 v9:=Tryz.zeroValue9
 t20:=Tryz.underlying20
 a20:=Tryz.isAgg20
 z20:=Tryz.sizeOf20
 v20:=Tryz.zeroValue20
 t37:=Tryz.underlying108
 a37:=Tryz.isAgg108
 z37:=Tryz.sizeOf108
 v37:=Tryz.zeroValue108
 t46:=Tryz.underlying155
 a46:=Tryz.isAgg155
 z46:=Tryz.sizeOf155
 v46:=Tryz.zeroValue155
 t51:=Tryz.underlying180
 a51:=Tryz.isAgg180
 z51:=Tryz.sizeOf180
 v51:=Tryz.zeroValue180
 t53:=Tryz.underlying141
 a53:=Tryz.isAgg141
 z53:=Tryz.sizeOf141
 v53:=Tryz.zeroValue141
 t171:=Tryz.underlying170
 a171:=Tryz.isAgg170
 z171:=Tryz.sizeOf170
 v171:=Tryz.zeroValue170
 t173:=Tryz.underlying173
 a173:=Tryz.isAgg173
 z173:=Tryz.sizeOf173
 v173:=Tryz.zeroValue173
 t212:=Tryz.underlying179
 a212:=Tryz.isAgg179
 z212:=Tryz.sizeOf179
 v212:=Tryz.zeroValue179
 t213:=Tryz.underlying181
 a213:=Tryz.isAgg181
 z213:=Tryz.sizeOf181
 t232:=Tryz.underlying189
 a232:=Tryz.isAgg189
 z232:=Tryz.sizeOf189
 v232:=Tryz.zeroValue189
 t233:=Tryz.underlying190
 a233:=Tryz.isAgg190
 z233:=Tryz.sizeOf190
 v233:=Tryz.zeroValue190
 g17:=by kernel_rfl
 g18:=by kernel_rfl
 g19:=by kernel_rfl
 i0:=by kernel_rfl
 i2:=by kernel_rfl
 i3:=by kernel_rfl
 i4:=by kernel_rfl
 i5:=by kernel_rfl
 i9:=by kernel_rfl
 i20:=by kernel_rfl
 i37:=by kernel_rfl
 i46:=by kernel_rfl
 i51:=by kernel_rfl
 i53:=by kernel_rfl
 i171:=by kernel_rfl
 i173:=by kernel_rfl
 i212:=by kernel_rfl
 i232:=by kernel_rfl
 i233:=by kernel_rfl
 m17:=by kernel_rfl
 m18:=by kernel_rfl
 m19:=by kernel_rfl }
open Go.RowKit Go.Sort Go.Lib in
theorem Tryz.strconv_Itoa (n:Int) (h0:-9223372036854775808≤n) (h1:n≤9223372036854775807) (w:World) (htab:Lib.TabIs Tryz.prog w "internal/strconv.uint64pow10" .u64 Lib.pow10Tab) :
  Calls Tryz.prog 97 #[.int .i64 n] w fun e w'=>e=.returned (.string ⟨(Lib.itoa n).toArray⟩)∧∃k os,w'=grow (w.drewN k) os:=Any.strconv_Itoa Tryz.laysM171 n h0 h1 w htab
def Tryz.lays145_ren:Go.Shelf.Ren:=⟨fun | 145=>107 | 220=>120 | 219=>129 | 217=>106 | 225=>144 | 224=>145 | 267=>146 | 266=>119 | 314=>161 | n=>n,fun | 9=>9 | 4=>4 | 59=>142 | 3=>3 | 5=>5 | 46=>155 | 146=>185 | 51=>180 | n=>n,fun | 1=>2 | n=>n⟩
theorem Tryz.lays145:Go.Proofs.Lays.n145 Tryz.prog Tryz.lays145_ren:={
 mixed:=by kernel_rfl
 f145:=Tryz.func107.trans (congrArg some (by kernel_rfl))
 f217:=Tryz.func106.trans (congrArg some (by kernel_rfl))
 f219:=Tryz.func129.trans (congrArg some (by kernel_rfl))
 f220:=Tryz.func120.trans (congrArg some (by kernel_rfl))
 f224:=Tryz.func145.trans (congrArg some (by kernel_rfl))
 f225:=Tryz.func144.trans (congrArg some (by kernel_rfl))
 f266:=Tryz.func119.trans (congrArg some (by kernel_rfl))
 f267:=Tryz.func146.trans (congrArg some (by kernel_rfl))
 f314:=Tryz.func161.trans (congrArg some (by kernel_rfl))
 t3:=Tryz.underlying3
 a3:=Tryz.isAgg3
 z3:=Tryz.sizeOf3
 v3:=Tryz.zeroValue3
 t4:=Tryz.underlying4
 a4:=Tryz.isAgg4
 z4:=Tryz.sizeOf4
 v4:=Tryz.zeroValue4
 t5:=Tryz.underlying5
 a5:=Tryz.isAgg5
 z5:=Tryz.sizeOf5
 v5:=Tryz.zeroValue5
 t9:=Tryz.underlying9
 a9:=Tryz.isAgg9
 z9:=Tryz.sizeOf9
 v9:=Tryz.zeroValue9
 t46:=Tryz.underlying155
 a46:=Tryz.isAgg155
 z46:=Tryz.sizeOf155
 v46:=Tryz.zeroValue155
 t51:=Tryz.underlying180
 a51:=Tryz.isAgg180
 z51:=Tryz.sizeOf180
 v51:=Tryz.zeroValue180
 t59:=Tryz.underlying142
 a59:=Tryz.isAgg142
 z59:=Tryz.sizeOf142
 v59:=Tryz.zeroValue142
 t146:=Tryz.underlying185
 a146:=Tryz.isAgg185
 z146:=Tryz.sizeOf185
 v146:=Tryz.zeroValue185
 g1:=by kernel_rfl }
open Go.RowKit Go.Lib in
theorem Tryz.strings_Cut (s sep:ByteArray) (m:Int) (w:World) (hs:s.size<4294967281) (hm:w.cell? ⟨2,0,none⟩=some (.int .i64 m)) :
  Calls Tryz.prog 107 #[.string s,.string sep] w fun e w'=>e=.returned (.tuple #[.string ⟨(Lib.cut s.data.toList sep.data.toList).1.toArray⟩,.string ⟨(Lib.cut s.data.toList sep.data.toList).2.1.toArray⟩,.bool (Lib.cut s.data.toList sep.data.toList).2.2])∧∃n,w'=w.drewN n:=Any.strings_Cut Tryz.lays145 s sep m w hs hm
def Tryz.laysM219_ren:Go.Shelf.Ren:=⟨fun | 219=>129 | 217=>106 | 225=>144 | 224=>145 | 267=>146 | 266=>119 | 314=>161 | n=>n,fun | 9=>9 | 3=>3 | 4=>4 | 5=>5 | 46=>155 | 146=>185 | 51=>180 | n=>n,fun | 1=>2 | n=>n⟩
theorem Tryz.laysM219:Go.Proofs.LaysM.n219 Tryz.prog Tryz.laysM219_ren:={
 mixed:=by kernel_rfl
 f217:=Tryz.func106.trans (congrArg some (by kernel_rfl))
 f219:=Tryz.func129.trans (congrArg some (by kernel_rfl))
 f224:=Tryz.func145.trans (congrArg some (by kernel_rfl))
 f225:=Tryz.func144.trans (congrArg some (by kernel_rfl))
 f266:=Tryz.func119.trans (congrArg some (by kernel_rfl))
 f267:=Tryz.func146.trans (congrArg some (by kernel_rfl))
 f314:=Tryz.func161.trans (congrArg some (by kernel_rfl))
 t3:=Tryz.underlying3
 a3:=Tryz.isAgg3
 z3:=Tryz.sizeOf3
 v3:=Tryz.zeroValue3
 t4:=Tryz.underlying4
 a4:=Tryz.isAgg4
 z4:=Tryz.sizeOf4
 v4:=Tryz.zeroValue4
 t5:=Tryz.underlying5
 a5:=Tryz.isAgg5
 z5:=Tryz.sizeOf5
 v5:=Tryz.zeroValue5
 t9:=Tryz.underlying9
 a9:=Tryz.isAgg9
 z9:=Tryz.sizeOf9
 v9:=Tryz.zeroValue9
 t46:=Tryz.underlying155
 a46:=Tryz.isAgg155
 z46:=Tryz.sizeOf155
 v46:=Tryz.zeroValue155
 t51:=Tryz.underlying180
 a51:=Tryz.isAgg180
 z51:=Tryz.sizeOf180
 v51:=Tryz.zeroValue180
 t146:=Tryz.underlying185
 a146:=Tryz.isAgg185
 z146:=Tryz.sizeOf185
 v146:=Tryz.zeroValue185
 g1:=by kernel_rfl
 i3:=by kernel_rfl
 i4:=by kernel_rfl
 i5:=by kernel_rfl
 i9:=by kernel_rfl
 i46:=by kernel_rfl
 i51:=by kernel_rfl
 i146:=by kernel_rfl
 m1:=by kernel_rfl
 s1_3:=fun w h=>Go.Proofs.cell_of_shapedOpen_int (zero:=#[.int .i64 0]) (t:=3) h (of_decide_eq_true (by kernel_rfl)) (by kernel_rfl) rfl (by kernel_rfl) (by kernel_rfl) Tryz.underlying3 }
def Tryz.lays260_ren:Go.Shelf.Ren:=⟨fun | 260=>105 | n=>n,fun | 9=>9 | 21=>21 | 3=>3 | 4=>4 | 5=>5 | 119=>154 | 0=>0 | 46=>155 | 139=>158 | 138=>157 | n=>n,fun | 3=>0 | 4=>1 | n=>n⟩
theorem Tryz.lays260:Go.Proofs.Lays.n260 Tryz.prog Tryz.lays260_ren:={
 mixed:=by kernel_rfl
 f260:=Tryz.func105.trans (congrArg some (by kernel_rfl))
 t0:=Tryz.underlying0
 a0:=Tryz.isAgg0
 z0:=Tryz.sizeOf0
 v0:=Tryz.zeroValue0
 t3:=Tryz.underlying3
 a3:=Tryz.isAgg3
 z3:=Tryz.sizeOf3
 v3:=Tryz.zeroValue3
 t4:=Tryz.underlying4
 a4:=Tryz.isAgg4
 z4:=Tryz.sizeOf4
 v4:=Tryz.zeroValue4
 t5:=Tryz.underlying5
 a5:=Tryz.isAgg5
 z5:=Tryz.sizeOf5
 v5:=Tryz.zeroValue5
 t9:=Tryz.underlying9
 a9:=Tryz.isAgg9
 z9:=Tryz.sizeOf9
 v9:=Tryz.zeroValue9
 t21:=Tryz.underlying21
 a21:=Tryz.isAgg21
 z21:=Tryz.sizeOf21
 v21:=Tryz.zeroValue21
 t46:=Tryz.underlying155
 a46:=Tryz.isAgg155
 z46:=Tryz.sizeOf155
 v46:=Tryz.zeroValue155
 t119:=Tryz.underlying154
 a119:=Tryz.isAgg154
 z119:=Tryz.sizeOf154
 t138:=Tryz.underlying157
 a138:=Tryz.isAgg157
 z138:=Tryz.sizeOf157
 v138:=Tryz.zeroValue157
 t139:=Tryz.underlying158
 a139:=Tryz.isAgg158
 z139:=Tryz.sizeOf158
 v139:=Tryz.zeroValue158
 g3:=by kernel_rfl
 g4:=by kernel_rfl }
def Tryz.lays197_ren:Go.Shelf.Ren:=⟨fun | 197=>73 | 260=>105 | n=>n,fun | 9=>9 | 21=>21 | 3=>3 | 4=>4 | 5=>5 | 105=>121 | 119=>154 | 0=>0 | 46=>155 | 139=>158 | 138=>157 | n=>n,fun | 3=>0 | 4=>1 | n=>n⟩
theorem Tryz.lays197:Go.Proofs.Lays.n197 Tryz.prog Tryz.lays197_ren:={
 mixed:=by kernel_rfl
 f197:=Tryz.func73.trans (congrArg some (by kernel_rfl))
 f260:=Tryz.func105.trans (congrArg some (by kernel_rfl))
 t0:=Tryz.underlying0
 a0:=Tryz.isAgg0
 z0:=Tryz.sizeOf0
 v0:=Tryz.zeroValue0
 t3:=Tryz.underlying3
 a3:=Tryz.isAgg3
 z3:=Tryz.sizeOf3
 v3:=Tryz.zeroValue3
 t4:=Tryz.underlying4
 a4:=Tryz.isAgg4
 z4:=Tryz.sizeOf4
 v4:=Tryz.zeroValue4
 t5:=Tryz.underlying5
 a5:=Tryz.isAgg5
 z5:=Tryz.sizeOf5
 v5:=Tryz.zeroValue5
 t9:=Tryz.underlying9
 a9:=Tryz.isAgg9
 z9:=Tryz.sizeOf9
 v9:=Tryz.zeroValue9
 t21:=Tryz.underlying21
 a21:=Tryz.isAgg21
 z21:=Tryz.sizeOf21
 v21:=Tryz.zeroValue21
 t46:=Tryz.underlying155
 a46:=Tryz.isAgg155
 z46:=Tryz.sizeOf155
 v46:=Tryz.zeroValue155
 t105:=Tryz.underlying121
 a105:=Tryz.isAgg121
 z105:=Tryz.sizeOf121
 v105:=Tryz.zeroValue121
 t119:=Tryz.underlying154
 a119:=Tryz.isAgg154
 z119:=Tryz.sizeOf154
 t138:=Tryz.underlying157
 a138:=Tryz.isAgg157
 z138:=Tryz.sizeOf157
 v138:=Tryz.zeroValue157
 t139:=Tryz.underlying158
 a139:=Tryz.isAgg158
 z139:=Tryz.sizeOf158
 v139:=Tryz.zeroValue158
 g3:=by kernel_rfl
 g4:=by kernel_rfl }
open Go.RowKit Go.Lib in
theorem Tryz.utf8_DecodeRuneInString (s:ByteArray) (w:World) (hT:Lib.Utf8Tabs 0 1 w) :
  Calls Tryz.prog 73 #[.string s] w fun e w'=>e=.returned (.tuple #[.int .i32 (Lib.decodeGo s).1,.int .i64 (Lib.decodeGo s).2])∧Below w.heap.size w w':=Any.utf8_DecodeRuneInString Tryz.lays197 s w hT
def Tryz.lays110_ren:Go.Shelf.Ren:=⟨fun | 110=>53 | 109=>81 | n=>n,fun | 31=>37 | 9=>9 | 4=>4 | 3=>3 | 0=>0 | n=>n,fun | n=>n⟩
theorem Tryz.lays110:Go.Proofs.Lays.n110 Tryz.prog Tryz.lays110_ren:={
 mixed:=by kernel_rfl
 f109:=Tryz.func81.trans (congrArg some (by kernel_rfl))
 f110:=Tryz.func53.trans (congrArg some (by kernel_rfl))
 t0:=Tryz.underlying0
 a0:=Tryz.isAgg0
 z0:=Tryz.sizeOf0
 v0:=Tryz.zeroValue0
 t3:=Tryz.underlying3
 a3:=Tryz.isAgg3
 z3:=Tryz.sizeOf3
 v3:=Tryz.zeroValue3
 t4:=Tryz.underlying4
 a4:=Tryz.isAgg4
 z4:=Tryz.sizeOf4
 v4:=Tryz.zeroValue4
 t9:=Tryz.underlying9
 a9:=Tryz.isAgg9
 z9:=Tryz.sizeOf9
 v9:=Tryz.zeroValue9
 t31:=Tryz.underlying37
 a31:=Tryz.isAgg37
 z31:=Tryz.sizeOf37
 v31:=Tryz.zeroValue37 }
open Go.Lib in
theorem Tryz.slices_Contains_string (b off n c:Nat) (zs:List ByteArray) (x:ByteArray) (w:World) (hz:n≤zs.length) (hbig:n≤9223372036854775807) (hc:∀j,j<zs.length→w.cell? ⟨b,off+j,none⟩=some (.string (zs.getD j ByteArray.empty))) :
  Calls Tryz.prog 53 #[.slice (some ⟨b,off,none⟩) n c,.string x] w fun e w'=>e=.returned (.bool (Lib.containsS (zs.take n) x))∧w'=w:=Any.slices_Contains_string Tryz.lays110 b off n c zs x w hz hbig hc
open Go.Lib in
theorem Tryz.slices_Contains_string_empty (a:Option Addr) (c:Nat) (x:ByteArray) (w:World) :
  Calls Tryz.prog 53 #[.slice a 0 c,.string x] w fun e w'=>e=.returned (.bool false)∧w'=w:=Any.slices_Contains_string_empty Tryz.lays110 a c x w
def Tryz.laysValid_ren:Go.Shelf.Ren:=⟨fun | 196=>170 | 259=>174 | n=>n,fun | 9=>9 | 4=>4 | 3=>3 | 5=>5 | 12=>12 | 119=>154 | 0=>0 | 46=>155 | 139=>158 | 138=>157 | 53=>141 | n=>n,fun | 3=>0 | 4=>1 | n=>n⟩
theorem Tryz.laysValid:Go.Proofs.Lays.n196 Tryz.prog Tryz.laysValid_ren:={
 mixed:=by kernel_rfl
 f196:=Tryz.func170.trans (congrArg some (by kernel_rfl))
 f259:=Tryz.func174.trans (congrArg some (by kernel_rfl))
 t0:=Tryz.underlying0
 a0:=Tryz.isAgg0
 z0:=Tryz.sizeOf0
 v0:=Tryz.zeroValue0
 t3:=Tryz.underlying3
 a3:=Tryz.isAgg3
 z3:=Tryz.sizeOf3
 v3:=Tryz.zeroValue3
 t4:=Tryz.underlying4
 a4:=Tryz.isAgg4
 z4:=Tryz.sizeOf4
 v4:=Tryz.zeroValue4
 t5:=Tryz.underlying5
 a5:=Tryz.isAgg5
 z5:=Tryz.sizeOf5
 v5:=Tryz.zeroValue5
 t9:=Tryz.underlying9
 a9:=Tryz.isAgg9
 z9:=Tryz.sizeOf9
 v9:=Tryz.zeroValue9
 t12:=Tryz.underlying12
 a12:=Tryz.isAgg12
 z12:=Tryz.sizeOf12
 v12:=Tryz.zeroValue12
 t46:=Tryz.underlying155
 a46:=Tryz.isAgg155
 z46:=Tryz.sizeOf155
 v46:=Tryz.zeroValue155
 t53:=Tryz.underlying141
 a53:=Tryz.isAgg141
 z53:=Tryz.sizeOf141
 v53:=Tryz.zeroValue141
 t119:=Tryz.underlying154
 a119:=Tryz.isAgg154
 z119:=Tryz.sizeOf154
 t138:=Tryz.underlying157
 a138:=Tryz.isAgg157
 z138:=Tryz.sizeOf157
 v138:=Tryz.zeroValue157
 t139:=Tryz.underlying158
 a139:=Tryz.isAgg158
 z139:=Tryz.sizeOf158
 v139:=Tryz.zeroValue158
 g3:=by kernel_rfl
 g4:=by kernel_rfl }
open Go.RowKit Go.Lib in
theorem Tryz.utf8_ValidString (s:ByteArray) (w:World) (hs:s.size≤9223372036854775807) (hT:Lib.Utf8Tabs 0 1 w) :
  Calls Tryz.prog 170 #[.string s] w fun e w'=>e=.returned (.bool (Lib.validD s.data.toList))∧Below w.heap.size w w':=Any.utf8_ValidString Tryz.laysValid s w hs hT
end Go.Proofs
namespace Go.Proofs.YtgcfjkfipkfijaaGreatDoor
open Go Go.RowKit _root_.Go.Proofs.Tryz
def dK (a b:ByteArray):Bool:=a.data.toList == b.data.toList
theorem bF {a b}:dK a b=true↔a=b:=by
 unfold dK
 rw [beq_iff_eq]
 exact ⟨fun h=>ByteArray.ext (Array.toList_inj.1 h),fun h=>by rw [h]⟩
def cJ (op:Int):Int:=if op=16 then 1 else if op=15 then 2 else if 9≤op∧op≤14 then 3 else if op=4∨op=5 then 4 else if 6≤op∧op≤8 then 5 else 6
def bytes (l:List UInt8):ByteArray:=⟨l.toArray⟩
def cZ (op:Int):ByteArray:=
 bytes (if op=2∨op=5 then [45] else if op=3 then [33] else if op=4 then [43] else if op=6 then [42] else if op=7 then [47] else if op=8 then [37] else
  if op=9 then [60] else if op=10 then [60,61] else if op=11 then [62] else if op=12 then [62,61] else if op=13 then [61,61] else if op=14 then [33,61] else if op=15 then [38] else [124])
abbrev oT (n:Int):Prop:=-9223372036854775808≤n∧n≤9223372036854775807
end Go.Proofs.YtgcfjkfipkfijaaGreatDoor
namespace Go.Proofs.YtgcfjkfipkfijaaGreatDoor
open Go Go.RowKit Go.Lib _root_.Go.Proofs.Tryz
inductive dU:Ex→Prop where
 | mk {op n:Int} {nm:ByteArray} {ks:List Ex} (h1:oT op) (h2:oT n) (h3:nm.size≤140737488355328) (h4:∀k,k∈ks→dU k):dU (.mk op n nm ks)
theorem dU.n {e} (h:dU e):oT e.n:=by cases h;assumption
theorem dU.name {e} (h:dU e):e.name.size≤140737488355328:=by cases h;assumption
theorem dU.kids {e} (h:dU e):∀k,k∈e.kids→dU k:=by cases h;assumption
theorem dU.kid {e} (h:dU e) (i) (hi:i<e.kids.length):dU e.kids[i]:=h.kids _ (g_ hi)
theorem Hl {e:Ex} (i) (hi:i<e.kids.length):SizeOf.sizeOf e.kids[i]<SizeOf.sizeOf e:=by
 cases e with
 | mk o n nm ks=>
  have h1:SizeOf.sizeOf ks[i]<SizeOf.sizeOf ks:=List.sizeOf_lt_of_mem (g_ hi)
  show SizeOf.sizeOf ks[i]<SizeOf.sizeOf (Ex.mk o n nm ks)
  simp
  omega
def aG (op kop:Int) (i:Int):Bool:=decide (cJ kop<cJ op) || (cJ kop == cJ op && decide (cJ op<6) && (i == 1 || cJ op == 3))
def aX (op:Int):Nat:=if op=2∨op=3 then 1 else 2
mutual
def bM:Ex→Int→Int
 | .mk op n nm ks,most=>
  if op=0∨op=1 then (if 0<ks.length∨op=0∧(n<0∨nm.size≠0)∨op=1∧(n≠0∨gI nm=false) then -1 else 1)
  else if op<0∨16<op∨n≠0∨nm.size≠0∨ks.length≠aX op∨most<1 then -1
  else cD op ks 0 1 most
def cD (op:Int):List Ex→Int→Int→Int→Int
 | [],_,n,_=>n
 | k::ks,i,n,most=>
  if bM k (most - n)<0 then -1
  else if most<n+bM k (most - n)+(if aG op k.op i then 2 else 0) then -1
  else cD op ks (i+1) (n+bM k (most - n)+(if aG op k.op i then 2 else 0)) most
end
def oN (e:Ex):Bool:=decide (0<bM e 64) && decide (bM e 64≤64)
theorem vS:∀(ks:List Ex) (op i n most:Int),n≤most∨n=-1→cD op ks i n most≤most∨cD op ks i n most=-1
 | [],_,_,_,_,h=>by simp only [cD];exact h
 | k::ks,op,i,n,most,h=>by
  simp only [cD]
  have hx:(0:Int)≤(if aG op k.op i=true then 2 else 0):=by split <;> omega
  generalize (if aG op k.op i=true then (2:Int) else 0)=x at hx ⊢
  split
  ·exact .inr rfl
  ·split
   ·exact .inr rfl
   ·exact vS ks op _ _ _ (.inl (by omega))
theorem Vm (e most):bM e most≤most∨bM e most≤1:=by
 cases e with
 | mk o n nm ks=>
  simp only [bM]
  split
  ·split <;> right <;> decide
  ·split
   ·right;decide
   ·rename_i h
    rcases vS ks o 0 1 most (.inl (by omega)) with h | h <;> omega
theorem vT:∀(ks:List Ex) (op i n most:Int),-1≤n→-1≤cD op ks i n most
 | [],_,_,_,_,h=>by simp only [cD];exact h
 | k::ks,op,i,n,most,h=>by
  simp only [cD]
  have hx:(0:Int)≤(if aG op k.op i=true then 2 else 0):=by split <;> omega
  generalize (if aG op k.op i=true then (2:Int) else 0)=x at hx ⊢
  split
  ·omega
  ·split
   ·omega
   ·exact vT ks op _ _ _ (by omega)
theorem Vn (e most):-1≤bM e most:=by
 cases e with
 | mk o n nm ks=>
  simp only [bM]
  split
  ·split <;> decide
  ·split
   ·omega
   ·exact vT _ _ _ _ _ (by omega)
end Go.Proofs.YtgcfjkfipkfijaaGreatDoor
namespace Go.Proofs.YtgcfjkfipkfijaaGreatDoor
open Go Go.RowKit Go.Lib _root_.Go.Proofs.Tryz
structure St where
 at_:Int
 bad:Int
def aE (l:List bQ) (i:Int):bQ:=if i<0∨(l.length:Int)≤i then cB else l.getD i.toNat cB
def eD:Ex:=.mk 0 0 ⟨#[]⟩ []
def dL (e:Int) (s:St):St:=if s.bad=0 then ⟨s.at_,e⟩ else s
def aT (first:Int) (s:St):Bool × St:=if 64≤s.at_ - first then (false,dL 2 s) else (true,⟨s.at_+1,s.bad⟩)
def Hh (t:bQ) (bad:Int):Nat→Int→Option Int
 | 0,_=>none
 | n+1,op=>if t.kind=4∧bad=0 then (if dK (cZ op) t.text then some op else Hh t bad n (op+1)) else none
def iR (l:List bQ) (a b:Int) (s:St):Option Int:=Hh (aE l s.at_) s.bad (b - a+1).toNat a
def fR (op:Int) (e:Ex):Ex:=.mk op 0 ⟨#[]⟩ [e]
def eY (op:Int) (e r:Ex):Ex:=.mk op 0 ⟨#[]⟩ [e,r]
def nL (l:List bQ) (first a b:Int) (below:St→Ex × St):Nat→Ex→St→Ex × St
 | 0,e,s=>(e,s)
 | n+1,e,s=>
  match iR l a b s with
  | none=>(e,s)
  | some op=>
   if (aT first s).1=false then (e,(aT first s).2)
   else nL l first a b below n (eY op e (below (aT first s).2).1) (below (aT first s).2).2
def iI (l:List bQ) (first a b:Int) (below:St→Ex × St) (s:St):Ex × St:=nL l first a b below 66 (below s).1 (below s).2
def tI (l:List bQ) (first:Int) (sum:St→Ex × St) (s:St):Ex × St:=
 match iR l 9 14 (sum s).2 with
 | none=>sum s
 | some op=>
  if (aT first (sum s).2).1=false then ((sum s).1,(aT first (sum s).2).2)
  else (eY op (sum s).1 (sum (aT first (sum s).2).2).1,(sum (aT first (sum s).2).2).2)
def uW (l:List bQ) (first:Int) (un:St→Ex × St):St→Ex × St:=
 iI l first 16 16 (iI l first 15 15 (tI l first (iI l first 4 5 (iI l first 6 8 un))))
def iJ (t:bQ):Bool:=t.kind == 4 && dK t.text ⟨#[40]⟩
def qR (t:bQ):Bool:=t.kind == 4 && dK t.text ⟨#[41]⟩
def vU (l:List bQ) (first:Int) (un orr:St→Ex × St) (s:St):Ex × St:=
 match iR l 2 3 s with
 | some op=>
  if (aT first s).1=false then (eD,(aT first s).2)
  else (fR op (un (aT first s).2).1,(un (aT first s).2).2)
 | none=>
  if s.bad≠0∨iJ (aE l s.at_)=false∧(aE l s.at_).kind≠2∧(aE l s.at_).kind≠1 then (eD,dL 11 s)
  else if (aT first s).1=false then (eD,(aT first s).2)
  else if (aE l s.at_).kind=2 then (.mk 0 (aE l s.at_).n ⟨#[]⟩ [],(aT first s).2)
  else if (aE l s.at_).kind=1 then (.mk 1 0 (aE l s.at_).text [],(aT first s).2)
  else
   if (orr (aT first s).2).2.bad=0∧qR (aE l (orr (aT first s).2).2.at_)=false then (eD,dL 11 (orr (aT first s).2).2)
   else if (orr (aT first s).2).2.bad=0 then ((orr (aT first s).2).1,(aT first (orr (aT first s).2).2).2)
   else orr (aT first s).2
def vD (l:List bQ) (first:Int):Nat→St→Ex × St
 | 0=>fun s=>(eD,s)
 | f+1=>vU l first (vD l first f) (uW l first (vD l first f))
def gZ (l:List bQ) (a:Int):Ex × Int × Int:=
 let p:=uW l a (vD l a 66) ⟨a,0⟩
 if p.2.bad≠0 then (eD,p.2.bad,p.2.at_) else (p.1,0,p.2.at_)
end Go.Proofs.YtgcfjkfipkfijaaGreatDoor
namespace Go.Proofs.YtgcfjkfipkfijaaGreatDoor
open Go Go.RowKit _root_.Go.Proofs.Tryz
theorem bU {k a b} (h:a=b):Ending.returned (.int k a)=.returned (.int k b):=by rw [h]
theorem bV {a b} (h:a=b):Ending.returned (.string a)=.returned (.string b):=by rw [h]
theorem Qv (op w):Calls prog 172 #[.int .i64 op] w fun e w'=>e=.returned (.int .i64 (cJ op))∧w=w':=by
 go_enter func172,ntmps172
 go_wp2
 all_goals
  go_ret
  refine ⟨bU ?_,rfl⟩
  simp only [beq_iff_eq,beq_eq_false_iff_ne,ne_eq] at *
  unfold cJ
  (repeat (first | rw [M_ (by omega)] | rw [K_ (by omega)]))
theorem vV (op w):Calls prog 159 #[.int .i64 op] w fun e w'=>e=.returned (.string (cZ op))∧w=w':=by
 go_enter func159,ntmps159
 go_wp2
 all_goals
  go_ret
  refine ⟨bV ?_,rfl⟩
  simp only [beq_iff_eq,beq_eq_false_iff_ne,ne_eq] at *
  unfold cZ
  (repeat (first | rw [M_ (by omega)] | rw [K_ (by omega)]))
  all_goals rfl
end Go.Proofs.YtgcfjkfipkfijaaGreatDoor
