/- Part 16 of the proof of rtrees_card; no conditions. -/
import Derived.Test.YtgcfjkfipkfijaaGreatDoorTr01
import Derived.Test.YtgcfjkfipkfijaaGreatDoorTr11
import Derived.Deep.RegionHeld3
import Derived.Deep.DrawnRows
set_option maxRecDepth 100000
set_option maxHeartbeats 8000000
namespace Go.Proofs.YtgcfjkfipkfijaaGreatDoor
open Go Go.RowKit Go.Lib _root_.Go.Proofs.Tryz
theorem fE {α:Type} {d:aN α} {M:List Nat} {w:World} {A:Option Addr} {xs:List α} (h:d.Row M w A xs) (hp:0<xs.length):∃ad,A=some ad:=by
 obtain ⟨ad,e,_⟩:=h.2 hp
 exact ⟨ad,e⟩
theorem Wl (e:Ex) (A:Option Addr) (c i:Nat) (w:World) (hr:gU.Row [] w A e.kids) (hlc:e.kids.length≤c) (hi:i<e.kids.length) (hT:cF w) (hl:(aP e.kids[i]).length≤18014398509481984)
  (ih:∀(A':Option Addr) (c':Nat) (W:World),gU.Row [] W A' e.kids[i].kids→e.kids[i].kids.length≤c'→cF W→Calls prog 141 #[eJ e.kids[i] A' c'] W fun r w'=>r=.returned (.string (str (aP e.kids[i])))∧Below W.heap.size W w') :
  Calls prog 160 #[eJ e A c,.int .i64 i] w fun r w'=>r=.returned (.string (str (oG (aG e.op e.kids[i].op i) (aP e.kids[i]))))∧Below w.heap.size w w':=by
 obtain ⟨ad,rfl⟩:=fE hr (by omega)
 obtain ⟨A',c',x0,x1,x2,x3,hlc',hrow',_⟩:=rT hr i hi
 have HROW:=hid hr
 have HROWK:=hid hrow'
 have HT:=hid hT
 have hlt:=N_ w _ x0
 have HIH:=hid (fun W h hT=>ih A' c' W h hlc' hT)
 have HW:=hid (fun W h=>uJ e (some ad) c i W h hi hlc)
 have HAL:=hid (Same.alloc (Same.refl [] w) (.cells #[.int .i64 e.op,.int .i64 e.n,.string e.name,.slice (some ad) e.kids.length c] 41))
 have HBOX:=hid (I_ w (.cells #[.int .i64 e.op,.int .i64 e.n,.string e.name,.slice (some ad) e.kids.length c] 41))
 obtain ⟨t,ht⟩:=nm_ (aP e.kids[i])
 obtain ⟨b,hb⟩:=nm_ (aG e.op e.kids[i].op i)
 rw [ht] at HIH hl ⊢
 rw [hb] at HW ⊢
 have hz:(i:Int)<e.kids.length:=by omega
 have hlcz:(e.kids.length:Int)≤c:=by omega
 have hl2:=bW t
 obtain ⟨s,hs⟩:=nm_ (str t)
 rw [hs] at HIH hl2
 have hsz:(s.size:Int)≤18014398509481984:=by omega
 have HFIN:Hid (str (oG true t)=⟨#[40]⟩++s++⟨#[41]⟩):=by
  have e1:(⟨#[40]⟩:ByteArray)=str [40]:=rfl
  have e2:(⟨#[41]⟩:ByteArray)=str [41]:=rfl
  rw [e1,e2,←hs,dC,dC];exact rfl
 have HFIN0:Hid (str (oG false t)=s):=hs
 clear hr hrow' hT ih ht hb hl2 hs
 go_enter func160,ntmps160
 go_wp2_with fail
 refine (HIH.out _ (HROWK.out.keep HAL.out) (HT.out.alloc _)).mono ?_
 rintro r w2 ⟨rfl,hb2⟩
 have hbx:=(hb2.block w.heap.size (by simp)).trans HBOX.out
 have q0:=(aB hbx 0).trans rfl
 have q1:=(aB hbx 1).trans rfl
 have q2:=(aB hbx 2).trans rfl
 have q3:=(aB hbx 3).trans rfl
 have HS2:=hid (HAL.out.below_ hb2)
 clear hb2 hbx
 go_wp2_with fail
 refine (HW.out _ (HROW.out.keep HS2.out)).mono ?_
 rintro r w3 ⟨rfl,hb3⟩
 have HB3:=hid (HS2.out.below.trans (hb3.mono HS2.out.size))
 clear hb3
 cases b
 ·go_wp2_with fail
  go_ret
  exact ⟨bV HFIN0.out.symm,HB3.out⟩
 ·go_wp2_with fail
  go_ret
  exact ⟨bV HFIN.out.symm,HB3.out⟩
theorem wT (e:Ex) (A:Option Addr) (c:Nat) (i:Int) (w:World) (hr:gU.Row [] w A e.kids) (hlc:e.kids.length≤c) (h0:0≤i) (hi:i<e.kids.length) (hT:cF w) (hl:(aP (e.kids[i.toNat]'(by omega))).length≤18014398509481984)
  (ih:∀k,k∈e.kids→∀(A':Option Addr) (c':Nat) (W:World),gU.Row [] W A' k.kids→k.kids.length≤c'→cF W→Calls prog 141 #[eJ k A' c'] W fun r w'=>r=.returned (.string (str (aP k)))∧Below W.heap.size W w') :
  Calls prog 160 #[eJ e A c,.int .i64 i] w fun r w'=>r=.returned (.string (str (oG (aG e.op (e.kids[i.toNat]'(by omega)).op i) (aP (e.kids[i.toNat]'(by omega))))))∧Below w.heap.size w w':=by
 obtain ⟨k,rfl⟩:=r_ h0
 exact Wl e A c k w hr hlc (by omega) hT hl (fun A' c' W a b c=>ih _ (g_ (by omega)) A' c' W a b c)
theorem Sk (o n nm a A c w) (ho:o=2∨o=3) (hr:gU.Row [] w A [a]) (hlc:1≤c) (hT:cF w) (hl:(aP (.mk o n nm [a])).length≤18014398509481984) (ih:∀(A':Option Addr) (c':Nat) (W:World),gU.Row [] W A' a.kids→a.kids.length≤c'→cF W→Calls prog 141 #[eJ a A' c'] W fun r w'=>r=.returned (.string (str (aP a)))∧Below W.heap.size W w') :
  Calls prog 141 #[.agg #[.int .i64 o,.int .i64 n,.string nm,.slice A 1 c]] w fun r w'=>r=.returned (.string (str (aP (.mk o n nm [a]))))∧Below w.heap.size w w':=by
 have hX:aP (.mk o n nm [a])=(cZ o).data.toList++oG (aG o a.op 0) (aP a):=by
  rw [aP.eq_def];simp only
  rw [K_ (by omega),K_ (by omega)]
 rw [hX,O_,gC] at hl
 have hk:(aP a).length≤18014398509481984:=by omega
 obtain ⟨w0,hw0,hal,_⟩:=alo_ w (.cells #[.int .i64 o,.int .i64 n,.string nm,.slice A 1 c] 41)
 have hbox:w0.heap[w.heap.size]? = some (.cells #[.int .i64 o,.int .i64 n,.string nm,.slice A 1 c] 41 (0,0)):=by rw [←hw0];exact I_ _ _
 have HP:Hid (∀W,Below w0.heap.size w0 W→Calls prog 160 #[.agg #[.int .i64 o,.int .i64 n,.string nm,.slice A 1 c],.int .i64 0] W fun r w'=>r=.returned (.string (str (oG (aG o a.op 0) (aP a))))∧Below w0.heap.size w0 w'):=fun W hW=>by
  have hS:=(hal.trans (hW.mono hal.size))
  refine (wT (.mk o n nm [a]) A c 0 W (hr.keep (Same.of_below hS)) hlc (by omega) (by simp [Ex.kids]) (hT.below hS) hk (fun k hk'=>by simp [Ex.kids] at hk';subst hk';exact ih)).mono ?_
  rintro r w' ⟨rfl,hb⟩
  exact ⟨rfl,hW.trans (hb.mono hW.size)⟩
 have hsg:=mU o
 obtain ⟨s1,hs1⟩:=nm_ (str (oG (aG o a.op 0) (aP a)))
 obtain ⟨s2,hs2⟩:=nm_ (cZ o)
 have hz1:(s1.size:Int)≤18014398509481999:=by rw [←hs1,bW,gC];split <;> omega
 have hz2:(s2.size:Int)≤2:=by rw [←hs2,←aJ];omega
 have HF:Hid (str (aP (.mk o n nm [a]))=s2++s1):=by rw [hX,←dC,dO,hs1,hs2];exact rfl
 rw [hs1] at HP
 have HS:Hid (∀W,Calls prog 159 #[.int .i64 o] W fun e w'=>e=.returned (.string s2)∧W=w'):=fun W=>by rw [←hs2];exact vV o W
 have SK:∀W,Below w0.heap.size w0 W→W.cell? ⟨w.heap.size,0,none⟩=some (.int .i64 o)∧W.cell? ⟨w.heap.size,1,none⟩=some (.int .i64 n)∧W.cell? ⟨w.heap.size,2,none⟩=some (.string nm)∧W.cell? ⟨w.heap.size,3,none⟩=some (.slice A 1 c)∧Hid (Below w0.heap.size w0 W):=fun W hW=>by
  have hb:=bp_ hW hbox
  exact ⟨(aB hb 0).trans rfl,(aB hb 1).trans rfl,(aB hb 2).trans rfl,(aB hb 3).trans rfl,hW⟩
 have HSK:=hid SK
 have hcat:∀W,(Op.stringOp .add s2 s1).run prog W=.ok (.string (s2++s1)) W:=fun W=>run_string_add_sum (w:=W) s2 s1 (by omega)
 have HAL:=hid hal
 have HW0:=hid hw0
 have o0:(o == 0)=false:=aW (by omega)
 have o1:(o == 1)=false:=aW (by omega)
 have hoo:(o == 2)=true∨((o == 2)=false∧(o == 3)=true):=by
  rcases ho with rfl | rfl
  ·exact .inl rfl
  ·exact .inr ⟨rfl,rfl⟩
 clear hr hT ih hX hl hk hal hbox SK hs1 hs2 hw0 ho hsg
 rcases hoo with b2 | ⟨b2,b3⟩
 all_goals
  go_enter func141,ntmps141
  go_wp2_with fail
  rw [HW0.out]
  have HB0:=hid ((J_ w0.heap.size w0).drew)
  obtain ⟨i0,i1,i2,i3,i4⟩:=HSK.out _ HB0.out
  go_region_held3 (fun W=>W.cell? ⟨w.heap.size,0,none⟩=some (.int .i64 o)∧W.cell? ⟨w.heap.size,1,none⟩=some (.int .i64 n)∧W.cell? ⟨w.heap.size,2,none⟩=some (.string nm)∧W.cell? ⟨w.heap.size,3,none⟩=some (.slice A 1 c)∧Hid (Below w0.heap.size w0 W))
   (first | exact HSK.out _ hb | exact HSK.out _ HB0.out | go_keep)
   (first
     | (go_at_call 159;refine (HS.out _).mono ?_;rintro e w' ⟨rfl,rfl⟩)
     | (go_at_call 160;refine (HP.out _ ?_).mono ?_;(first | exact HB0.out | assumption);rintro e w' ⟨rfl,hb⟩))
  all_goals
   go_wp2_with fail
   go_ret
   exact ⟨bV HF.out.symm,HAL.out.trans (hb.mono HAL.out.size)⟩
theorem Sl (o n nm a b A c w) (ho:4≤o) (hr:gU.Row [] w A [a,b]) (hlc:2≤c) (hT:cF w) (hl:(aP (.mk o n nm [a,b])).length≤18014398509481984) (ih:∀k,k∈[a,b]→∀(A':Option Addr) (c':Nat) (W:World),gU.Row [] W A' k.kids→k.kids.length≤c'→cF W→Calls prog 141 #[eJ k A' c'] W fun r w'=>r=.returned (.string (str (aP k)))∧Below W.heap.size W w') :
  Calls prog 141 #[.agg #[.int .i64 o,.int .i64 n,.string nm,.slice A 2 c]] w fun r w'=>r=.returned (.string (str (aP (.mk o n nm [a,b]))))∧Below w.heap.size w w':=by
 have hX:aP (.mk o n nm [a,b])=oG (aG o a.op 0) (aP a)++[32]++(cZ o).data.toList++[32]++oG (aG o b.op 1) (aP b):=by
  rw [aP.eq_def];simp only
  rw [K_ (by omega),K_ (by omega)]
 rw [hX] at hl
 simp only [O_,gC,P_,b_] at hl
 obtain ⟨w0,hw0,hal,_⟩:=alo_ w (.cells #[.int .i64 o,.int .i64 n,.string nm,.slice A 2 c] 41)
 have hbox:w0.heap[w.heap.size]? = some (.cells #[.int .i64 o,.int .i64 n,.string nm,.slice A 2 c] 41 (0,0)):=by rw [←hw0];exact I_ _ _
 obtain ⟨ps,hp0,hp1⟩:∃ps:Int→ByteArray,ps 0=str (oG (aG o a.op 0) (aP a))∧ps 1=str (oG (aG o b.op 1) (aP b)):=⟨fun i=>if i=0 then str (oG (aG o a.op 0) (aP a)) else str (oG (aG o b.op 1) (aP b)),rfl,rfl⟩
 have HP:Hid (∀W (i:Int),i=0∨i=1→Below w0.heap.size w0 W→Calls prog 160 #[.agg #[.int .i64 o,.int .i64 n,.string nm,.slice A 2 c],.int .i64 i] W fun r w'=>r=.returned (.string (ps i))∧Below w0.heap.size w0 w'):=fun W i hi hW=>by
  have hS:=(hal.trans (hW.mono hal.size))
  rcases hi with rfl | rfl
  ·refine (wT (.mk o n nm [a,b]) A c 0 W (hr.keep (Same.of_below hS)) hlc (by omega) (by simp [Ex.kids]) (hT.below hS) (show (aP a).length≤_ by omega) ih).mono ?_
   rintro r w' ⟨rfl,hb⟩
   exact ⟨by rw [hp0];rfl,hW.trans (hb.mono hW.size)⟩
  ·refine (wT (.mk o n nm [a,b]) A c 1 W (hr.keep (Same.of_below hS)) hlc (by omega) (by simp [Ex.kids]) (hT.below hS) (show (aP b).length≤_ by omega) ih).mono ?_
   rintro r w' ⟨rfl,hb⟩
   exact ⟨by rw [hp1];rfl,hW.trans (hb.mono hW.size)⟩
 have hsg:=mU o
 obtain ⟨s2,hs2⟩:=nm_ (cZ o)
 have hz0:(ps 0).size≤18014398509481999:=by rw [hp0,bW,gC];split <;> omega
 have hz1:(ps 1).size≤18014398509481999:=by rw [hp1,bW,gC];split <;> omega
 have hz2:s2.size≤2:=by rw [←hs2,←aJ];omega
 have hsp:(⟨#[32]⟩:ByteArray)=str [32]:=rfl
 have HF:Hid (str (aP (.mk o n nm [a,b]))=ps 0++⟨#[32]⟩++s2++⟨#[32]⟩++ps 1):=by
  rw [hX,←dC,←dC,←dC,←dC,dO,←hp0,←hp1,hs2,hsp];exact rfl
 have HS:Hid (∀W,Calls prog 159 #[.int .i64 o] W fun e w'=>e=.returned (.string s2)∧W=w'):=fun W=>by rw [←hs2];exact vV o W
 have SK:∀W,Below w0.heap.size w0 W→W.cell? ⟨w.heap.size,0,none⟩=some (.int .i64 o)∧W.cell? ⟨w.heap.size,1,none⟩=some (.int .i64 n)∧W.cell? ⟨w.heap.size,2,none⟩=some (.string nm)∧W.cell? ⟨w.heap.size,3,none⟩=some (.slice A 2 c)∧Hid (Below w0.heap.size w0 W):=fun W hW=>by
  have hb:=bp_ hW hbox
  exact ⟨(aB hb 0).trans rfl,(aB hb 1).trans rfl,(aB hb 2).trans rfl,(aB hb 3).trans rfl,hW⟩
 have HSK:=hid SK
 have e1:(⟨#[32]⟩:ByteArray).size=1:=rfl
 have c1:∀W,(Op.stringOp .add (ps 0) ⟨#[32]⟩).run prog W=.ok (.string (ps 0++⟨#[32]⟩)) W:=fun W=>run_string_add_sum (w:=W) _ _ (by rw [e1];omega)
 have c2:∀W,(Op.stringOp .add (ps 0++⟨#[32]⟩) s2).run prog W=.ok (.string (ps 0++⟨#[32]⟩++s2)) W:=fun W=>run_string_add_sum (w:=W) _ _ (by rw [ByteArray.size_append,e1];omega)
 have c3:∀W,(Op.stringOp .add (ps 0++⟨#[32]⟩++s2) ⟨#[32]⟩).run prog W=.ok (.string (ps 0++⟨#[32]⟩++s2++⟨#[32]⟩)) W:=fun W=>run_string_add_sum (w:=W) _ _ (by rw [ByteArray.size_append,ByteArray.size_append,e1];omega)
 have c4:∀W,(Op.stringOp .add (ps 0++⟨#[32]⟩++s2++⟨#[32]⟩) (ps 1)).run prog W=.ok (.string (ps 0++⟨#[32]⟩++s2++⟨#[32]⟩++ps 1)) W:=fun W=>run_string_add_sum (w:=W) _ _ (by rw [ByteArray.size_append,ByteArray.size_append,ByteArray.size_append,e1];omega)
 have HAL:=hid hal
 have HW0:=hid hw0
 have o0:(o == 0)=false:=aW (by omega)
 have o1:(o == 1)=false:=aW (by omega)
 have o2:(o == 2)=false:=aW (by omega)
 have o3:(o == 3)=false:=aW (by omega)
 clear hr hT ih hX hl hal hbox SK hs2 hw0 ho hsg hp0 hp1 hsp e1
 go_enter func141,ntmps141
 go_wp2_with fail
 rw [HW0.out]
 have HB0:=hid ((J_ w0.heap.size w0).drew)
 obtain ⟨i0,i1,i2,i3,i4⟩:=HSK.out _ HB0.out
 go_region_held3 (fun W=>W.cell? ⟨w.heap.size,0,none⟩=some (.int .i64 o)∧W.cell? ⟨w.heap.size,1,none⟩=some (.int .i64 n)∧W.cell? ⟨w.heap.size,2,none⟩=some (.string nm)∧W.cell? ⟨w.heap.size,3,none⟩=some (.slice A 2 c)∧Hid (Below w0.heap.size w0 W))
  (first | exact HSK.out _ hb | exact HSK.out _ HB0.out | go_keep)
  (first
    | (go_at_call 159;refine (HS.out _).mono ?_;rintro e w' ⟨rfl,rfl⟩)
    | (go_at_call 160;refine (HP.out _ _ (by omega) ?_).mono ?_;(first | exact HB0.out | assumption);rintro e w' ⟨rfl,hb⟩))
 all_goals
  go_wp2_with fail
  go_ret
  exact ⟨bV HF.out.symm,HAL.out.trans (hb.mono HAL.out.size)⟩
theorem Nz (o n nm A c w) (ho:o=0∨o=1) (hn:oT n) (hT:cF w) :
  Calls prog 141 #[.agg #[.int .i64 o,.int .i64 n,.string nm,.slice A 0 c]] w fun r w'=>r=.returned (.string (str (aP (.mk o n nm []))))∧Below w.heap.size w w':=by
 have HS:=hid (fun W h=>Dh n W hn.1 hn.2 h)
 have HT:=hid hT
 clear hT
 rcases ho with rfl | rfl
 ·have HX:Hid (aP (.mk 0 n nm [])=Lib.itoa n):=by rw [aP.eq_def];exact rfl
  go_enter func141,ntmps141
  go_wp2_with (go_at_call 66;refine (HS.out _ (HT.out.alloc _)).mono ?_;rintro e w2 ⟨rfl,hb2⟩)
  go_ret
  exact ⟨bV (by rw [HX.out];rfl),((J_ _ _).alloc le_ _).trans (hb2.mono (by simp))⟩
 ·have HX:Hid (aP (.mk 1 n nm [])=nm.data.toList):=by rw [aP.eq_def];exact rfl
  go_enter func141,ntmps141
  go_wp2_with fail
  go_ret
  exact ⟨bV (by rw [HX.out,dO]),(J_ _ _).alloc le_ _⟩
theorem sL {o n nm a} (ho:¬(o=0∨o=1)):(aP a).length≤(aP (.mk o n nm [a])).length:=by
 conv=>rhs;rw [aP.eq_def]
 simp only
 rw [K_ (by omega),K_ (by omega),O_,gC]
 omega
theorem sM {o n nm a b} (ho:¬(o=0∨o=1)):(aP a).length≤(aP (.mk o n nm [a,b])).length∧(aP b).length≤(aP (.mk o n nm [a,b])).length:=by
 constructor
 all_goals
  conv=>rhs;rw [aP.eq_def]
  simp only
  rw [K_ (by omega),K_ (by omega)]
  simp only [O_,gC]
  omega
theorem Sm (N):∀(e:Ex) (A:Option Addr) (c:Nat) (w:World),SizeOf.sizeOf e<N→gU.Row [] w A e.kids→e.kids.length≤c→dU e→Eb e→(aP e).length≤18014398509481984→cF w →
  Calls prog 141 #[eJ e A c] w fun r w'=>r=.returned (.string (str (aP e)))∧Below w.heap.size w w':=by
 induction N with
 | zero=>intro e A c w h;omega
 | succ N ih=>
  intro e A c w hN hr hlc hk hs hl hT
  cases hs with
  | leaf h h2=>
   subst h2
   exact Nz _ _ _ A c w h hk.n hT
  | @node op n nm ks h1 h2 h3 h4=>
   have hsz:∀x,x∈ks→SizeOf.sizeOf x<N:=fun x hx=>by
    have:=List.sizeOf_lt_of_mem hx
    simp at hN
    omega
   have hlc:ks.length≤c:=hlc
   have hr:gU.Row [] w A ks:=hr
   have hno:¬(op=0∨op=1):=by omega
   by_cases ho:op=2∨op=3
   ·have hp:aX op=1:=M_ ho
    obtain ⟨a,rfl⟩:∃a,ks=[a]:=List.length_eq_one_iff.1 (h3.trans hp)
    have hla:=sL (n:=n) (nm:=nm) (a:=a) hno
    exact Sk op n nm a A c w ho hr hlc hT hl (fun A' c' W hr' hl' hT'=>ih a A' c' W (hsz a (by simp)) hr' hl' (hk.kids a (by simp [Ex.kids])) (h4 a (by simp)) (by omega) hT')
   ·have hp:aX op=2:=K_ ho
    obtain ⟨a,b,rfl⟩:∃a b,ks=[a,b]:=by
     have h5:=h3.trans hp
     match ks,h5 with
     | [a,b],_=>exact ⟨a,b,rfl⟩
    have hla:=sM (n:=n) (nm:=nm) (a:=a) (b:=b) hno
    exact Sl op n nm a b A c w (by omega) hr hlc hT hl (fun k hkm A' c' W hr' hl' hT'=>ih k A' c' W (hsz k hkm) hr' hl' (hk.kids k hkm) (h4 k hkm) (by simp at hkm;rcases hkm with rfl | rfl <;> omega) hT')
theorem zY (e A c w) (hr:gU.Row [] w A e.kids) (hlc:e.kids.length≤c) (hk:dU e) (hT:cF w) :
  Calls prog 125 #[eJ e A c] w fun r w'=>r=.returned (.string (str (kD e)))∧Below w.heap.size w w':=by
 have HM:=hid (fun W h hT=>Wc e A c W h hlc hk hT)
 have HAL:=hid (Same.alloc (Same.refl [] w) (.cells #[.int .i64 e.op,.int .i64 e.n,.string e.name,.slice A e.kids.length c] 41))
 have HBOX:=hid (I_ w (.cells #[.int .i64 e.op,.int .i64 e.n,.string e.name,.slice A e.kids.length c] 41))
 have HX:Hid (kD e=if oN e then aP e else []):=rfl
 have HT:=hid hT
 have HR:=hid hr
 cases hb:oN e
 ·rw [hb] at HM HX
  clear hr hT
  go_enter func125,ntmps125
  go_wp2_with (go_at_call 140;refine (HM.out _ (HR.out.keep HAL.out) (HT.out.alloc _)).mono ?_;rintro r w2 ⟨rfl,hb2⟩)
  go_ret
  exact ⟨bV (by rw [HX.out];rfl),HAL.out.below.trans (hb2.mono (by simp))⟩
 ·have HRK:=hid (fun W hr hT=>Sm (SizeOf.sizeOf e+1) e A c W (by omega) hr hlc hk (zO hb) (sF hk hb) hT)
  rw [hb] at HM HX
  clear hr hT
  go_enter func125,ntmps125
  go_wp2_with fail
  refine (HM.out _ (HR.out.keep HAL.out) (HT.out.alloc _)).mono ?_
  rintro r w2 ⟨rfl,hb2⟩
  have hbx:=(hb2.block w.heap.size (by simp)).trans HBOX.out
  have q0:=(aB hbx 0).trans rfl
  have q1:=(aB hbx 1).trans rfl
  have q2:=(aB hbx 2).trans rfl
  have q3:=(aB hbx 3).trans rfl
  have HS2:=hid (HAL.out.below_ hb2)
  clear hb2 hbx
  go_wp2_with (go_at_call 141;refine (HRK.out _ (HR.out.keep HS2.out) (HT.out.below HS2.out.below)).mono ?_;rintro r w3 ⟨rfl,hb3⟩)
  go_ret
  exact ⟨bV (by rw [HX.out];rfl),HS2.out.below.trans (hb3.mono HS2.out.size)⟩
end Go.Proofs.YtgcfjkfipkfijaaGreatDoor
