/- Part 3 of the proof of rtrees_card; no conditions. -/
import Derived.Test.YtgcfjkfipkfijaaGreatDoorTr01
import Derived.Test.YtgcfjkfipkfijaaGreatDoorTr02
import Derived.Test.YtgcfjkfipkfijaaGreatDoorProg
import Derived.Tactics
import Derived.WalkKit
import Derived.KernelRfl
import Derived.LoopTactic
import Derived.Deep.QuietTactic
import Derived.BigQuiet
import Derived.Outline
import Derived.Lib.Hide
import Derived.Laws.RangeString
import Derived.Laws.RangeAny
import Derived.Lib.OthersKept
import Derived.Deep.RegionHeld3
import Derived.Deep.RegionLaw
set_option maxRecDepth 100000
set_option maxHeartbeats 1000000
namespace Go.Proofs.YtgcfjkfipkfijaaGreatDoor
open Go Go.RowKit Go.Lib _root_.Go.Proofs.Tryz
theorem pQ {a b} (h:a=b):Ending.returned (.int .i64 a)=.returned (.int .i64 b):=by rw [h]
theorem fY (r w) (h0:-2147483648≤r) (h1:r≤2147483647):Calls prog 74 #[.int .i32 r] w fun e w'=>e=.returned (.int .i64 (dJ r))∧w=w':=by
 by_cases hs:32<r∧r<127
 ·obtain ⟨hs1,hs2⟩:=hs
  have hc:=hid (fun w=>Tryz.strings_IndexByte ⟨#[40,41,123,125,44,59,58,61,43,45,42,47,37,60,62,33,38,124]⟩ r w)
  obtain ⟨x,hx⟩:=nm_ (Lib.indexByte oE r.toNat.toUInt8)
  have hX:Hid (Lib.indexByte oE r.toNat.toUInt8=x):=hx
  have hc':Hid (∀w:World,Calls prog 75 #[.string ⟨#[40,41,123,125,44,59,58,61,43,45,42,47,37,60,62,33,38,124]⟩,.int .u8 r] w fun e w'=>e=.returned (.int .i64 x)∧w'=w):=by
   subst hx
   exact hc.out
  clear hc hx
  go_enter func74,ntmps74
  go_wp2_with (go_at_call 75;refine (hc'.out _).mono ?_;rintro e w' ⟨rfl,rfl⟩)
  all_goals
   go_ret
   refine ⟨pQ ?_,rfl⟩
   simp only [beq_iff_eq,beq_eq_false_iff_ne,ne_eq] at *
   unfold dJ
   rw [hX.out]
   (repeat (first | rw [M_ (by omega)] | rw [K_ (by omega)]))
 ·have hs':r≤32∨127≤r:=by omega
  clear hs
  go_enter func74,ntmps74
  go_wp2_with fail
  all_goals (first | (exfalso;omega) | skip)
  all_goals
   go_ret
   refine ⟨pQ ?_,rfl⟩
   simp only [beq_iff_eq,beq_eq_false_iff_ne,ne_eq,bne_iff_ne,bne_eq_false_iff_eq] at *
   unfold dJ
   (repeat (first | rw [M_ (by omega)] | rw [K_ (by omega)]))
end Go.Proofs.YtgcfjkfipkfijaaGreatDoor
namespace Go.Proofs.YtgcfjkfipkfijaaGreatDoor
open Go Go.RowKit _root_.Go.Proofs.Tryz
def yV:Nat:=5+1
structure cF (w:World):Prop where
 utf:Lib.Utf8Tabs 0 1 w
 len:∃m,w.cell? ⟨2,0,none⟩=some (.int .i64 m)
 pow:Lib.TabIs prog w "internal/strconv.uint64pow10" .u64 Lib.pow10Tab
 size:yV≤w.heap.size
theorem vW:Tryz.prog.globalNamed "internal/strconv.uint64pow10" = some 3:=by kernel_rfl
theorem cF.keep {M w w'} (h:cF w) (s:Same M w w') (hm:∀k,k∈M→yV≤k):cF w':=by
 have hb:∀k,k<yV→w'.heap[k]? = w.heap[k]?:=fun k hk=>s.block k (Y_ hk h.size) (fun hc=>by have:=hm k hc;omega)
 have hc:∀(p:Addr) (v:Value),p.block<yV→w.cell? p=some v→w'.cell? p=some v:=fun p v hp hv=>(World.cell?_of_block (w:=w) (hb p.block hp)).trans hv
 refine ⟨⟨fun c hc'=>hc _ _ (by simp [yV]) (h.utf.1 c hc'),fun i hi=>⟨hc _ _ (by simp [yV]) (h.utf.2 i hi).1,hc _ _ (by simp [yV]) (h.utf.2 i hi).2⟩⟩,?_,?_,d_ h.size s.size⟩
 ·obtain ⟨m,hm'⟩:=h.len
  exact ⟨m,hc _ _ (by simp [yV]) hm'⟩
 ·have:=h.pow
  unfold Lib.TabIs World.var? at this ⊢
  rw [vW] at this ⊢
  simp only [Option.bind_some] at this ⊢
  rw [hb _ (by simp [yV])]
  exact this
theorem cF.below {w w'} (h:cF w) (b:Below w.heap.size w w'):cF w':=h.keep (M:=[]) (Same.of_below b) (fun _ hk=>by simp at hk)
theorem cF.alloc {w} (h:cF w) (o):cF (w.alloc o):=h.keep (M:=[]) ((Same.refl [] w).alloc o) (fun _ hk=>by simp at hk)
end Go.Proofs.YtgcfjkfipkfijaaGreatDoor
namespace Go.Proofs.YtgcfjkfipkfijaaGreatDoor
open Go Go.RowKit Go.Lib _root_.Go.Proofs.Tryz
theorem cO {a b} (h:a=b):Ending.returned (.bool a)=.returned (.bool b):=by rw [h]
theorem aJ (s:ByteArray):s.data.toList.length=s.size:=by simp
theorem bP (w s pos):Below w.heap.size w (w.iter s pos):=(J_ _ _).alloc le_ _
theorem zG {r:Nat} {c:Int} (h:dJ (r:Int)=c):Hk r=(c == 2 || c == 3):=by unfold Hk;rw [h]
theorem lE (s pos):((Utf8.decode s pos).1:Int)≤2147483647:=by have:=decode_le s pos;omega
theorem lF (s:ByteArray):(!s.toList.isEmpty)=decide (s.size≠0):=by
 rw [Lib.toList_data,←aJ]
 cases s.data.toList <;> simp
theorem lG (c:Int):c=2∨c=3∨(c != 2)=true∧(c != 3)=true:=by
 simp only [bne_iff_ne,ne_eq]
 omega
theorem Mt (s w):Calls prog 171 #[.string s] w fun e w'=>e=.returned (.bool (nK s))∧Below w.heap.size w w':=by
 obtain ⟨ANS,hANS⟩:=nm_ (iT (aI s.data.toList))
 have HA:Hid (nK s=(ANS && decide (s.size≠0))):=by unfold nK;rw [hANS];exact rfl
 go_enter func171,ntmps171
 go_wp2
 go_loopw [4,5] (fun _ _ w'=>∃pos,w'=w.iter s pos∧iT (aI (s.data.toList.drop pos))=ANS) (fun _ _ w'=>s.size - w'.iterPos w.heap.size)
 case atStart=>exact ⟨0,rfl,by simpa using hANS⟩
 case round=>
  obtain ⟨pos,rfl,hr⟩:=hrel
  clear hANS
  have HR:=hid hr
  clear hr
  by_cases hp:pos<s.size
  ·have hnx:∀ty,(Instr.next (.pointer (some ⟨w.heap.size,0,none⟩)) true ty).run prog (w.iter s pos)=_:=fun ty=>run_next_any w s pos ty hp
   have hwd:=Lib.decode_width_pos s pos hp
   have hle:=lE s pos
   obtain ⟨c,hc⟩:=nm_ (dJ ((Utf8.decode s pos).1:Int))
   have hC:∀w',Calls prog 74 #[.int .i32 (Utf8.decode s pos).1] w' fun e w''=>e=.returned (.int .i64 c)∧w'=w'':=by
    subst hc
    exact fun w'=>fY _ w' (by omega) hle
   have HC:=hid hC
   have HI:Hid (Hk (Utf8.decode s pos).1=(c == 2 || c == 3)):=zG hc
   have HRR:Hid (iT (aI (s.data.toList.drop pos))=(Hk (Utf8.decode s pos).1 && iT (aI (s.data.toList.drop (pos+(Utf8.decode s pos).2))))):=by
    rw [iH s pos hp];exact rfl
   clear hC hc
   rcases lG c with rfl | rfl | ⟨n2,n3⟩
   ·go_wp2_with (go_at_call 74;refine (HC.out _).mono ?_;rintro e w' ⟨rfl,rfl⟩)
    go_roundw
    case rel=>exact ⟨_,rfl,by have h1:=HR.out;rw [HRR.out,HI.out] at h1;simpa using h1⟩
    case measure=>simp;omega
   ·go_wp2_with (go_at_call 74;refine (HC.out _).mono ?_;rintro e w' ⟨rfl,rfl⟩)
    go_roundw
    case rel=>exact ⟨_,rfl,by have h1:=HR.out;rw [HRR.out,HI.out] at h1;simpa using h1⟩
    case measure=>simp;omega
   ·go_wp2_with (go_at_call 74;refine (HC.out _).mono ?_;rintro e w' ⟨rfl,rfl⟩)
    go_ret
    refine ⟨cO ?_,bP _ _ _⟩
    have h1:=HR.out
    rw [HRR.out,HI.out] at h1
    rw [HA.out,←h1]
    simp only [bne_iff_ne,ne_eq] at n2 n3
    simp [n2,n3]
  ·have hnx:∀ty,(Instr.next (.pointer (some ⟨w.heap.size,0,none⟩)) true ty).run prog (w.iter s pos)=_:=fun ty=>run_next_end w s pos ty hp
   go_wp2
   go_ret
   refine ⟨cO ?_,bP _ _ _⟩
   have h1:=HR.out
   rw [fX s pos hp] at h1
   rw [HA.out,←h1]
   simp only [iT,List.all_nil,Bool.true_and]
   exact lF s
end Go.Proofs.YtgcfjkfipkfijaaGreatDoor
namespace Go.Proofs.YtgcfjkfipkfijaaGreatDoor
open Go Go.RowKit Go.Lib _root_.Go.Proofs.Tryz
theorem Hm (w q os):Below w.heap.size w (Sort.grow (w.drewN q) os):=by
 refine ⟨rfl,rfl,rfl,by simp [Sort.grow,World.drewN],fun k hk=>?_⟩
 show (w.heap++os)[k]? = _
 rw [Array.getElem?_append_left hk]
theorem Hn {s} (h:nK s=true):0<s.size:=by
 unfold nK at h
 rw [a_,decide_eq_true_eq] at h
 omega
theorem Dh (n w) (h0:-9223372036854775808≤n) (h1:n≤9223372036854775807) (hT:cF w) :
  Calls prog 66 #[.int .i64 n] w fun e w'=>e=.returned (.string ⟨(Lib.itoa n).toArray⟩)∧Below w.heap.size w w':=by
 have HC:=hid (Tryz.strconv_Itoa n h0 h1 w hT.pow)
 clear hT
 go_enter func66,ntmps66
 go_wp2_with (go_at_call 97;refine HC.out.mono ?_;rintro e w' ⟨rfl,k,os,rfl⟩)
 go_ret
 exact ⟨rfl,Hm _ _ _⟩
theorem mP (s:ByteArray) (h:0<s.size):s[0]=s.data.toList.getD 0 0:=by
 have h':0<s.data.toList.length:=by rw [aJ];exact h
 rw [S_,R_ h']
 rfl
theorem Qw (s w) (hs:s.size<9223372036854775807) (hT:cF w) :
  Calls prog 167 #[.string s] w fun e w'=>e=.returned (.bool (gI s))∧Below w.heap.size w w':=by
 have HV:=hid (Tryz.utf8_ValidString s w (by omega) hT.utf)
 clear hT
 obtain ⟨V,hV⟩:=nm_ (Lib.validD s.data.toList)
 obtain ⟨W,hW⟩:=nm_ (nK s)
 obtain ⟨n,hn⟩:∃n:Nat,(aI s.data.toList).length=n:=⟨_,rfl⟩
 obtain ⟨c,hc⟩:∃c:UInt8,s.data.toList.getD 0 0=c:=⟨_,rfl⟩
 have HA:Hid (gI s=(V && W && (decide (c.toNat<48) || decide (57<c.toNat)) && decide (n≤12))):=by unfold gI;rw [hV,hW,hn,hc];exact rfl
 have HWd:Hid (∀w,Calls prog 171 #[.string s] w fun e w'=>e=.returned (.bool W)∧Below w.heap.size w w'):=fun w=>by have:=Mt s w;rw [hW] at this;exact this
 have HR:Hid (∀w,Calls prog 77 #[.string s] w fun e w'=>e=.returned (.int .i64 n)∧∃pos,w'=w.iter s pos):=fun w=>by
  have:=Tryz.utf8_RuneCountInString s w hs;rw [gP,hn] at this;exact this
 rw [hV] at HV
 cases V
 ·go_enter func167,ntmps167
  go_wp2_with (go_at_call 170;refine HV.out.mono ?_;rintro e w1 ⟨rfl,hb1⟩)
  go_ret
  exact ⟨cO (by rw [HA.out];rfl),hb1⟩
 ·cases W
  ·clear hV hW hn hc
   go_enter func167,ntmps167
   go_wp2_with (first | (go_at_call 170;refine HV.out.mono ?_;rintro e w1 ⟨rfl,hb1⟩) | (go_at_call 171;refine (HWd.out _).mono ?_;rintro e w2 ⟨rfl,hb2⟩))
   go_ret
   exact ⟨cO (by rw [HA.out];rfl),hb1.trans (hb2.mono hb1.size)⟩
  ·have h0:0<s.size:=Hn hW
   have hz:(0:Int)<s.size:=by omega
   have hh:s[0]=c:=by rw [mP s h0];exact hc
   have hlt:=c.toNat_lt
   clear hV hW hn hc
   have hd:((c.toNat:Int)<48∧decide ((c.toNat:Int)<48)=true∧(decide (c.toNat<48) || decide (57<c.toNat))=true) ∨
     (48≤(c.toNat:Int)∧57<(c.toNat:Int)∧(decide (c.toNat<48) || decide (57<c.toNat))=true) ∨
     (48≤(c.toNat:Int)∧(c.toNat:Int)≤57∧(decide (c.toNat<48) || decide (57<c.toNat))=false):=by
    rcases Nat.lt_or_ge c.toNat 48 with h1 | h1
    ·exact .inl ⟨by omega,W_ (by omega),by simp [h1]⟩
    ·rcases Nat.lt_or_ge 57 c.toNat with h2 | h2
     ·exact .inr (.inl ⟨by omega,by omega,by simp [h2]⟩)
     ·exact .inr (.inr ⟨by omega,by omega,by simp;omega⟩)
   rcases hd with ⟨d1,d2,hd⟩ | ⟨d1,d2,hd⟩ | ⟨d1,d2,hd⟩
   all_goals
    have HD:=hid hd
    clear hd
    go_enter func167,ntmps167
    go_wp2_with (first | (go_at_call 170;refine HV.out.mono ?_;rintro e w1 ⟨rfl,hb1⟩) | (go_at_call 171;refine (HWd.out _).mono ?_;rintro e w2 ⟨rfl,hb2⟩) | (go_at_call 77;refine (HR.out _).mono ?_;rintro e w3 ⟨rfl,pos,rfl⟩))
    all_goals
     go_ret
     first
     | exact ⟨cO (by rw [HA.out,HD.out];simp <;> omega),hb1.trans (hb2.mono hb1.size)⟩
     | exact ⟨cO (by rw [HA.out,HD.out];simp <;> omega),(hb1.trans (hb2.mono hb1.size)).trans ((bP _ _ _).mono (d_ hb1.size hb2.size))⟩
end Go.Proofs.YtgcfjkfipkfijaaGreatDoor
namespace Go.Proofs.YtgcfjkfipkfijaaGreatDoor
open Go Go.RowKit Go.Lib _root_.Go.Proofs.Tryz
theorem Ho {a b p} (h:(a,b)=p):Ending.returned (.tuple #[.int .i64 a,.bool b])=.returned (.tuple #[.int .i64 p.1,.bool p.2]):=by rw [←h]
theorem vX {s} (h:s.size=0∨19<s.size∨1<s.size∧s.data.toList.getD 0 0=48):qG s=(0,false):=by unfold qG;rw [M_ h]
theorem Qx {n} (h:9223372036854775807<n):Vl (some n)=(0,false):=M_ h
theorem Vo {n} (h:¬9223372036854775807<n):Vl (some n)=((n:Int),true):=K_ h
theorem AY {r}:dJ r=3↔48≤r∧r≤57:=by
 unfold dJ
 repeat' split
 all_goals omega
theorem Qy {a d p q} (ha:a<10 ^ p) (hd:d≤9) (hq:1≤q):10*a+d<10 ^ (p+q):=by
 have h1:10 ^ (p+1)≤10 ^ (p+q):=Nat.pow_le_pow_right (by omega) (by omega)
 rw [Nat.pow_succ] at h1
 omega
theorem Vp {a p} (ha:a<10 ^ p) (hp:p≤18):a≤999999999999999999:=by
 have h1:10 ^ p≤10 ^ 18:=Nat.pow_le_pow_right (by omega) hp
 omega
theorem Qz {a p} (ha:a<10 ^ p) (hp:p≤19):a≤9999999999999999999:=by
 have h1:10 ^ p≤10 ^ 19:=Nat.pow_le_pow_right (by omega) hp
 omega
theorem Hp (s w):Calls prog 78 #[.string s] w fun e w'=>e=.returned (.tuple #[.int .i64 (qG s).1,.bool (qG s).2])∧Below w.heap.size w w':=by
 by_cases h0:s.size=0
 ·have hE:s.toList.isEmpty=true:=by
   have:=lF s;simp [h0] at this;simpa using this
  rw [vX (.inl h0)]
  clear h0
  go_enter func78,ntmps78
  go_wp2
  go_ret2
  exact ⟨rfl,J_ _ _⟩
 have hE:s.toList.isEmpty=false:=by
  have:=lF s;simp [h0] at this;simpa using this
 by_cases h19:19<s.size
 ·rw [vX (.inr (.inl h19))]
  have hz:(19:Int)<s.size:=by omega
  clear h0 h19
  go_enter func78,ntmps78
  go_wp2
  go_ret2
  exact ⟨rfl,J_ _ _⟩
 have hz19:(s.size:Int)≤19:=by omega
 have hp0:0<s.size:=by omega
 have hz0:(0:Int)<s.size:=by omega
 obtain ⟨c,hc⟩:∃c:UInt8,s.data.toList.getD 0 0=c:=⟨_,rfl⟩
 have hh:s[0]=c:=by rw [mP s hp0];exact hc
 have hlt:=c.toNat_lt
 by_cases h1:1<s.size∧c=48
 ·rw [vX (.inr (.inr ⟨h1.1,by rw [hc];exact h1.2⟩))]
  obtain ⟨h1,rfl⟩:=h1
  have hz1:(1:Int)<s.size:=by omega
  clear hc h0 h19 h1
  go_enter func78,ntmps78
  go_wp2
  go_ret2
  exact ⟨rfl,J_ _ _⟩
 obtain ⟨ANS,hANS⟩:=nm_ (yU 0 (aI s.data.toList))
 have HA:Hid (qG s=Vl ANS):=by
  unfold qG
  rw [K_ (by rw [hc];rintro (h | h | h);exact h0 h;exact h19 h;exact h1 h),hANS]
  exact rfl
 have hor:(s.size:Int)≤1∨(1:Int)<s.size∧((c.toNat:Int) == 48)=false:=by
  rcases Nat.lt_or_ge 1 s.size with h | h
  ·refine .inr ⟨by omega,?_⟩
   rw [beq_eq_false_iff_ne]
   intro e
   exact h1 ⟨h,UInt8.toNat_inj.1 (by simpa using (by omega:c.toNat=48))⟩
  ·exact .inl (by omega)
 have H19:=hid h19
 clear hc h0 h19 h1
 rcases hor with hor | ⟨hor,hor2⟩
 all_goals
  go_enter func78,ntmps78
  go_wp2
  go_loopw [4,6] (fun n _ w'=>∃pos acc:Nat,w'=w.iter s pos∧n=.int .u64 acc∧acc<10 ^ pos∧pos≤s.size∧yU acc (aI (s.data.toList.drop pos))=ANS) (fun _ _ w'=>s.size - w'.iterPos w.heap.size)
  case atStart=>exact ⟨0,0,rfl,rfl,by simp,by omega,by simpa using hANS⟩
  case round=>
   obtain ⟨pos,acc,rfl,rfl,hacc,hps,hr⟩:=hrel
   clear hANS
   have HR:=hid hr
   have HACC:=hid hacc
   have hcap:=Qz hacc (by omega)
   clear hr
   by_cases hp:pos<s.size
   ·have hnx:∀ty,(Instr.next (.pointer (some ⟨w.heap.size,0,none⟩)) true ty).run prog (w.iter s pos)=_:=fun ty=>run_next_any w s pos ty hp
    have hwd:=Lib.decode_width_pos s pos hp
    have hle:=lE s pos
    have hft:=jN s pos hp
    have hcap2:=Vp hacc (by omega)
    clear hacc
    obtain ⟨cl,hcl⟩:=nm_ (dJ ((Utf8.decode s pos).1:Int))
    have hC:∀w',Calls prog 74 #[.int .i32 (Utf8.decode s pos).1] w' fun e w''=>e=.returned (.int .i64 cl)∧w'=w'':=by
     subst hcl
     exact fun w'=>fY _ w' (by omega) hle
    have HC:=hid hC
    have HRR:Hid (yU acc (aI (s.data.toList.drop pos))=if cl=3 then yU (10*acc+((Utf8.decode s pos).1 - 48)) (aI (s.data.toList.drop (pos+(Utf8.decode s pos).2))) else none):=by
     rw [iH s pos hp,←hcl];exact rfl
    by_cases h3:cl=3
    ·subst h3
     obtain ⟨hd1,hd2⟩:=AY.1 hcl
     clear hC hcl
     go_wp2_with (go_at_call 74;refine (HC.out _).mono ?_;rintro e w' ⟨rfl,rfl⟩)
     go_roundw
     case rel=>
      have h1:=HR.out
      rw [HRR.out,M_ trivial] at h1
      exact ⟨_,_,rfl,by congr 1;omega,Qy HACC.out (by omega) hwd,hft,h1⟩
     case measure=>simp;omega
    ·have hb:(cl != 3)=true:=by rw [bne_iff_ne];exact h3
     have H3:=hid h3
     clear hC hcl h3
     go_wp2_with (go_at_call 74;refine (HC.out _).mono ?_;rintro e w' ⟨rfl,rfl⟩)
     go_ret2
     refine ⟨Ho ?_,bP _ _ _⟩
     have h1:=HR.out
     rw [HRR.out,K_ H3.out] at h1
     rw [HA.out,←h1]
     rfl
   ·have hnx:∀ty,(Instr.next (.pointer (some ⟨w.heap.size,0,none⟩)) true ty).run prog (w.iter s pos)=_:=fun ty=>run_next_end w s pos ty hp
    have HE:Hid (ANS=some acc):=by
     have h1:=HR.out
     rw [fX s pos hp] at h1
     exact h1.symm
    by_cases hbig:9223372036854775807<acc
    ·have hz:(9223372036854775807:Int)<acc:=by omega
     clear hacc
     go_wp2
     go_ret2
     exact ⟨Ho (by rw [HA.out,HE.out,Qx hbig]),bP _ _ _⟩
    ·have hz:(acc:Int)≤9223372036854775807:=by omega
     clear hacc
     go_wp2
     go_ret2
     exact ⟨Ho (by rw [HA.out,HE.out,Vo hbig]),bP _ _ _⟩
end Go.Proofs.YtgcfjkfipkfijaaGreatDoor
namespace Go.Proofs.YtgcfjkfipkfijaaGreatDoor
open Go Go.RowKit Go.Lib _root_.Go.Proofs.Tryz
theorem nM {w:World} {k:Nat} {s:ByteArray} {p:Nat} (h:w.heap[k]? = some (.stringIter s p)):w.iterPos k=p:=by unfold World.iterPos;rw [h]
theorem mQ (s:ByteArray) (k:Nat):(s.extract k s.size).data.toList=s.data.toList.drop k:=Lib.ext_list s k
theorem Bo (s k) (h:k<s.size):Lib.decodeGo (s.extract k s.size)=Utf8.decode s k:=by
 unfold Lib.decodeGo
 rw [K_ (by rw [Lib.ext_size];omega),←decodeL_drop s k,←mQ s k]
 have:=decodeL_drop (s.extract k s.size) 0
 rw [←this];rfl
theorem Vq (s w) (hs:s.size≤9223372036854775806) (hT:cF w):Calls prog 47 #[.string s] w fun e w'=>e=.returned (.int .i64 (qQ 0 (aI s.data.toList)))∧Below w.heap.size w w':=by
 obtain ⟨ANS,hANS⟩:=nm_ (qQ 0 (aI s.data.toList))
 rw [hANS]
 have HT:=hid hT
 clear hT
 go_enter func47,ntmps47
 go_wp2
 go_loopw [3,4,5,6,7] (fun a _ _ _ _ w'=>∃pos k:Nat,a=.int .i64 k∧k≤pos∧pos≤s.size∧w'.heap[w.heap.size]? = some (.stringIter s pos)∧Below w.heap.size w w'∧qQ k (aI (s.data.toList.drop pos))=ANS) (fun _ _ _ _ _ w'=>s.size - w'.iterPos w.heap.size)
 case atStart=>exact ⟨0,0,rfl,by omega,by omega,World.iter_heap w s 0,bP w s 0,by simpa using hANS⟩
 case round=>
  obtain ⟨pos,k,rfl,hkp,hps,hit,hbel,hr⟩:=hrel
  have HR:=hid hr
  have HIT:=hid hit
  have HB:=hid hbel
  clear hr hANS
  obtain ⟨wo,hwo⟩:∃wo:World,wo=wr:=⟨_,rfl⟩
  by_cases hp:pos<s.size
  ·have hnx:∀ty,(Instr.next (.pointer (some ⟨w.heap.size,0,none⟩)) true ty).run prog wr=_:=fun ty=>run_next_any_at wr w.heap.size s pos ty hit hp
   have hwd:=Lib.decode_width_pos s pos hp
   have hle:=lE s pos
   have hft:=jN s pos hp
   obtain ⟨r,hr⟩:=nm_ ((Utf8.decode s pos).1)
   obtain ⟨wd,hw⟩:=nm_ ((Utf8.decode s pos).2)
   have HRR:Hid (qQ k (aI (s.data.toList.drop pos))=if (r,wd)=(65533,1) then (k:Int) else qQ (k+1) (aI (s.data.toList.drop (pos+wd)))):=by
    rw [iH s pos hp,←hr,←hw];exact rfl
   have hIT2:=iterAt_heap wr w.heap.size s pos (pos+wd) hit
   have hB2:=below_iterAt hbel (k:=w.heap.size) le_ s (pos+wd)
   have HD:Hid (∀W,cF W→Calls prog 73 #[.string (s.extract pos s.size)] W fun e w'=>e=.returned (.tuple #[.int .i32 r,.int .i64 wd])∧Below W.heap.size W w'):=fun W hW=>by
    have:=Tryz.utf8_DecodeRuneInString (s.extract pos s.size) W hW.utf
    rw [Bo s pos hp,hr,hw] at this
    exact this
   rw [hr,hw] at hnx
   rw [hr] at hle
   rw [hw] at hwd hft
   obtain ⟨W2,hW2⟩:=nm_ (wr.iterAt w.heap.size s (pos+wd))
   rw [hW2] at hnx hIT2 hB2
   have HIT2:=hid hIT2
   have HB2:=hid hB2
   have hposz:(pos:Int)≤s.size:=by omega
   clear hit hbel hIT2 hB2 hr hw hW2 hwo wo
   by_cases h1:r=65533
   ·by_cases h2:wd=1
    ·subst h1 h2
     go_wp2_with (go_at_call 73;refine (HD.out _ (HT.out.below HB2.out)).mono ?_;rintro e w3 ⟨rfl,hb3⟩)
     go_ret
     refine ⟨pQ ?_,HB2.out.trans (hb3.mono HB2.out.size)⟩
     have h1:=HR.out
     rw [HRR.out] at h1
     simpa using h1
    ·have c2:((wd:Int) == 1)=false:=by rw [beq_eq_false_iff_ne];omega
     have H2:=hid h2
     clear h2
     subst h1
     go_wp2_with (go_at_call 73;refine (HD.out _ (HT.out.below HB2.out)).mono ?_;rintro e w3 ⟨rfl,hb3⟩)
     go_roundw
     case rel=>
      have h1:=HR.out
      rw [HRR.out,K_ (fun e=>H2.out (c_ Prod.snd e))] at h1
      have hlt:w.heap.size<W2.heap.size:=(C_ HIT2.out).1
      exact ⟨pos+wd,k+1,by go_num,by omega,hft,(hb3.block _ hlt).trans HIT2.out,HB2.out.trans (hb3.mono HB2.out.size),by rw [←h1];rfl⟩
     case measure=>
      have hlt:w.heap.size<W2.heap.size:=(C_ HIT2.out).1
      rw [nM ((hb3.block _ hlt).trans HIT2.out),nM HIT.out]
      omega
   ·have c1:((r:Int) == 65533)=false:=by rw [beq_eq_false_iff_ne];omega
    have H1:=hid h1
    clear h1
    go_wp2_with fail
    go_roundw
    case rel=>
     have h1:=HR.out
     rw [HRR.out,K_ (fun e=>H1.out (c_ Prod.fst e))] at h1
     exact ⟨pos+wd,k+1,by go_num,by omega,hft,HIT2.out,HB2.out,by rw [←h1];rfl⟩
    case measure=>
     rw [nM HIT2.out,nM HIT.out]
     omega
  ·have hnx:∀ty,(Instr.next (.pointer (some ⟨w.heap.size,0,none⟩)) true ty).run prog wr=_:=fun ty=>run_next_end_at wr w.heap.size s pos ty hit hp
   clear hit hbel hwo wo
   go_wp2
   go_ret
   refine ⟨pQ ?_,HB.out⟩
   have h1:=HR.out
   rw [fX s pos hp] at h1
   exact h1
end Go.Proofs.YtgcfjkfipkfijaaGreatDoor
namespace Go.Proofs.YtgcfjkfipkfijaaGreatDoor
open Go Go.RowKit Go.Lib _root_.Go.Proofs.Tryz
variable {a : Addr} {cs : Array Value} {g : Nat} {fr : Nat × Nat} {t : TypeId} {v : Value} {w : World}
theorem aB (h:w.heap[g]? = some (.cells cs t fr)) (i):w.cell? ⟨g,i,none⟩=cs[i]?:=by simp [World.cell?,h]
theorem aD (h:w.heap[g]? = some (.cells cs t (0,0))) (i):w.frozen? ⟨g,i,none⟩=false:=by simp [World.frozen?,h]
theorem aZ (h:w.heap[g]? = some (.cells cs t fr)) (i v):(w.setCell ⟨g,i,none⟩ v).heap[g]? = some (.cells (cs.setIfInBounds i v) t fr):=by simp [World.setCell,Array.getElem?_modify,h]
theorem aC {o:Obj} (h:w.heap[g]? = some o):g<w.heap.size:=(C_ h).1
theorem tJ (s pos) (h:w.cell? a=some v):(w.iter s pos).cell? a=some v:=((bP w s pos).cell (N_ w a h)).trans h
theorem uH (s pos) (hc:w.cell? a=some v) (h:w.frozen? a=false):(w.iter s pos).frozen? a=false:=((bP w s pos).frozen (N_ w a hc)).trans h
theorem uI {b:Bool} (h:w.frozen? a=b):w.drew.frozen? a=b:=h
theorem pR (h:w.cell? a=some v):w.drew.cell? a=some v:=h
def mB (w:World) (g:Nat) (rest:ByteArray) (at_:Int) (v:Value):Prop:=w.heap[g]? = some (.cells #[.string rest,.int .i64 at_,v] 84 (0,0))
theorem Ra (g rest at_ v n w) (hb:mB w g rest at_ v) (hn:n≤rest.size) (hs:rest.size≤1000000) (ha0:0≤at_) (ha:at_≤1000000) :
  Calls prog 50 #[.pointer (some ⟨g,0,none⟩),.int .i64 n] w fun e w'=>
   e=.returned (.tuple #[])∧mB w' g (rest.extract n rest.size) (at_+(aI (rest.data.toList.take n)).length) v∧Same [g] w w':=by
 have hc0:w.cell? ⟨g,0,none⟩=some (.string rest):=(aB hb 0).trans rfl
 have hc1:w.cell? ⟨g,1,none⟩=some (.int .i64 at_):=(aB hb 1).trans rfl
 have hf0:=aD hb 0
 have hf1:=aD hb 1
 have HB:=hid hb
 clear hb
 have hnz:(n:Int)≤rest.size:=by omega
 have hz:(runeCount (rest.extract 0 n):Int)≤1000000:=by have:=runeCount_le (rest.extract 0 n);simp at this;omega
 obtain ⟨RC,hRC⟩:=nm_ (runeCount (rest.extract 0 n))
 rw [hRC] at hz
 have hRC':(aI (rest.data.toList.take n)).length=RC:=by rw [←hRC,gP];congr 2;simp
 have HC:Hid (∀W,Calls prog 77 #[.string (rest.extract 0 n)] W fun e w'=>e=.returned (.int .i64 RC)∧∃pos,w'=W.iter (rest.extract 0 n) pos):=fun W=>by
  rw [←hRC];exact Tryz.utf8_RuneCountInString _ W (by simp;omega)
 rw [hRC']
 clear hRC hRC'
 go_enter func50,ntmps50
 go_wp2_with fail
 have hsum:IntKind.i64.wrap (at_ + ↑RC)=at_ + ↑RC:=IntWalk.i64_in _ (by omega)
 go_region_with (first | (go_at_call 77;refine (HC.out _).mono ?_;rintro e w' ⟨rfl,pos,rfl⟩;have q0:=tJ (rest.extract 0 n) pos (pR hc0);have q1:=tJ (rest.extract 0 n) pos (pR hc1);have qf0:=uH (rest.extract 0 n) pos (pR hc0) (uI hf0);have qf1:=uH (rest.extract 0 n) pos (pR hc1) (uI hf1)))
 all_goals
  go_wp2
  go_end0
  refine ⟨rfl,?_,?_⟩
  ·have h1:=aZ (v:=Value.int .i64 (at_ + ↑RC)) (show (w.drew.iter (rest.extract 0 n) pos).heap[g]? = _ from ((bP w.drew _ pos).block g (aC HB.out)).trans HB.out) 1
   exact aZ h1 0 _
  ·refine Same.setCell (Same.setCell ?_ (.inl (by simp)) _) (.inl (by simp)) _
   exact Same.alloc (Same.drew (Same.refl _ _)) _
theorem rV (g:Nat) (rest:ByteArray) (at_:Int) (v:Value) (n:Int) (w:World) (hb:mB w g rest at_ v) (hn0:0≤n) (hn:n≤rest.size) (hs:rest.size≤1000000) (ha0:0≤at_) (ha:at_≤1000000) :
  Calls prog 50 #[.pointer (some ⟨g,0,none⟩),.int .i64 n] w fun e w'=>
   e=.returned (.tuple #[])∧mB w' g (rest.extract n.toNat rest.size) (at_+(aI (rest.data.toList.take n.toNat)).length) v∧Same [g] w w':=by
 obtain ⟨k,rfl⟩:=r_ hn0
 rw [Int.toNat_natCast]
 exact Ra g rest at_ v k w hb (by omega) hs ha0 ha
end Go.Proofs.YtgcfjkfipkfijaaGreatDoor
