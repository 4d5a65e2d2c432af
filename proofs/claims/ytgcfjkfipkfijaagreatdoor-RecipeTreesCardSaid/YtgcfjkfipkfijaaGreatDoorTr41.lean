/- Part 41 of the proof of rtrees_card; no conditions. -/
import Derived.Test.YtgcfjkfipkfijaaGreatDoorTr01
import Derived.Test.YtgcfjkfipkfijaaGreatDoorTr25
import Derived.Test.YtgcfjkfipkfijaaGreatDoorTr08
import Derived.Test.YtgcfjkfipkfijaaGreatDoorTr40
import Derived.Test.YtgcfjkfipkfijaaGreatDoorTr24
import Derived.Deep.DeepCutAuto
import Derived.Deep.CutBlock
set_option maxRecDepth 100000
set_option maxHeartbeats 64000000
namespace Go.Proofs.YtgcfjkfipkfijaaGreatDoor
open Go Go.RowKit Go.Lib _root_.Go.Proofs.Tryz
theorem jW (l A c first at_ t w) (hr:cN.Row [] w A l) (hlc:l.length≤c) (ht:aE l at_=t) (hf0:0≤first) (hf1:first≤1152921504606846976) (h1:first≤at_) (h3:at_≤first+64) (b45 b33 b40) (k45:(t.kind == 4 && dK t.text ⟨#[45]⟩)=b45) (k33:(t.kind == 4 && dK t.text ⟨#[33]⟩)=b33) (k40:(t.kind == 4 && dK t.text ⟨#[40]⟩)=b40) (R) (hv:b45=false∧b33=false∧b40=false∧t.kind≠2∧t.kind≠1∧R=(eD,11,at_) ∨
    b45=true∧b33=false∧b40=false∧t.kind=4∧64≤at_ - first∧R=(eD,2,at_) ∨
    b45=false∧b33=true∧b40=false∧t.kind=4∧64≤at_ - first∧R=(eD,2,at_) ∨
    b45=false∧b33=false∧b40=true∧t.kind=4∧64≤at_ - first∧R=(eD,2,at_) ∨
    b45=false∧b33=false∧b40=false∧t.kind=2∧64≤at_ - first∧R=(eD,2,at_) ∨
    b45=false∧b33=false∧b40=false∧t.kind=1∧64≤at_ - first∧R=(eD,2,at_) ∨
    b45=false∧b33=false∧b40=false∧t.kind=2∧at_ - first<64∧R=(.mk 0 t.n ⟨#[]⟩ [],0,at_+1) ∨
    b45=false∧b33=false∧b40=false∧t.kind=1∧at_ - first<64∧R=(.mk 1 0 t.text [],0,at_+1)) :
  Calls prog 132 #[.slice A l.length c,.int .i64 first,.int .i64 at_] w (bR w.heap.size R w):=by
 have hu:True:=And.elim (fun _ _=>trivial) (T_ (T_ hf0 hf1) (T_ h1 h3))
 clear hu
 have HR:=hid hr
 have HTK:=hid ht
 have HV:=hid hv
 have K45:Hid ((t.kind == 4 && dK t.text ⟨#[45]⟩)=b45):=hid k45
 have K33:Hid ((t.kind == 4 && dK t.text ⟨#[33]⟩)=b33):=hid k33
 have K40:Hid ((t.kind == 4 && dK t.text ⟨#[40]⟩)=b40):=hid k40
 clear hr ht k45 k33 k40 hv
 go_enter func132,ntmps132
 go_wp2_with fail
 obtain ⟨w0,hw0,hb0,hz0⟩:=alo_ w (.cells #[.int .i64 0,.int .i64 0,.string ⟨#[]⟩,.slice none 0 0] 41 (0,0))
 obtain ⟨P,hP⟩:=nm_ w.heap.size
 rw [hw0,hP]
 rw [hP] at hz0
 have HPW:=hid hP
 have HB0:=hid hb0
 have HP0:=hid hz0
 clear hb0 hz0 hw0 hP
 refine (jC l A c at_ w0 (HR.out.keep (Same.of_below HB0.out)) hlc).mono ?_
 rw [HTK.out]
 rintro r w1 ⟨rfl,hb1⟩
 have HB1:=tm_ HB0 hb1
 have HP1:=bl_ hb1 HP0
 clear hb1
 go_wp2_with fail
 obtain ⟨w2,hw2,hb2,hz2⟩:=alo_ w1 (.cells #[.int .i64 t.kind,.string t.text,.int .i64 t.n,.int .i64 t.at_] 60 (0,0))
 obtain ⟨T,hT⟩:=nm_ w1.heap.size
 rw [hw2,hT]
 rw [hT] at hz2
 have HPT:Hid (P<T):=hid (by rw [←hT];exact aC HP1.out)
 have HB2:=tm_ HB1 hb2
 have HP2:=bl_ hb2 HP1
 have HT2:=hid hz2
 clear hb2 hz2 hw2 hT
 refine (kS t ⟨#[45]⟩ w2).mono ?_
 rw [K45.out]
 rintro r w3 ⟨rfl,hb3⟩
 have HB3:=tm_ HB2 hb3
 have HP3:=bl_ hb3 HP2
 have HT3:=bl_ hb3 HT2
 clear hb3
 (try clear x0 x1 x2 x3)
 obtain ⟨⟨x0,x1,x2,x3⟩,_⟩:=cC HT3.out
 go_wp2_with fail
 refine (kS t ⟨#[33]⟩ w3).mono ?_
 rw [K33.out]
 rintro r w4 ⟨rfl,hb4⟩
 have HB4:=tm_ HB3 hb4
 have HP4:=bl_ hb4 HP3
 have HT4:=bl_ hb4 HT3
 clear hb4
 (try clear x0 x1 x2 x3)
 obtain ⟨⟨x0,x1,x2,x3⟩,_⟩:=cC HT4.out
 go_wp2_with fail
 refine (kS t ⟨#[40]⟩ w4).mono ?_
 rw [K40.out]
 rintro r w5 ⟨rfl,hb5⟩
 have HB5:=tm_ HB4 hb5
 have HP5:=bl_ hb5 HP4
 have HT5:=bl_ hb5 HT4
 clear hb5
 (try clear x0 x1 x2 x3)
 obtain ⟨⟨x0,x1,x2,x3⟩,_⟩:=cC HT5.out
 have hpt:=HPT.out
 obtain ⟨⟨z0,z1,z2,z3⟩,f0,f1,f2,f3⟩:=aK HP5.out
 rcases HV.out with ⟨rfl,rfl,rfl,hk2,hk1,rfl⟩ | ⟨rfl,rfl,rfl,hk,h64,rfl⟩ | ⟨rfl,rfl,rfl,hk,h64,rfl⟩ | ⟨rfl,rfl,rfl,hk,h64,rfl⟩ | ⟨rfl,rfl,rfl,hk,h64,rfl⟩ | ⟨rfl,rfl,rfl,hk,h64,rfl⟩ | ⟨rfl,rfl,rfl,hk,h64,rfl⟩ | ⟨rfl,rfl,rfl,hk,h64,rfl⟩
 ·have n2:(t.kind == 2)=false:=A_ (by omega)
  have m2:(t.kind != 2)=true:=B_ (by omega)
  have n1:(t.kind == 1)=false:=A_ (by omega)
  have m1:(t.kind != 1)=true:=B_ (by omega)
  clear hk2 hk1
  go_wp2
  refine L_ (v:=.tuple #[.agg #[.int .i64 0,.int .i64 0,.string ⟨#[]⟩,.slice none 0 0],.int .i64 11,.int .i64 at_]) (by simp [results,results132,go_sem, *]) rfl ?_
  refine ⟨none,0,rfl,cR.leaf rfl,?_⟩
  first
  | exact HB5.out
  | exact aH HB5.out (by rw [HPW.out];exact H_ _) _ _ _ _
 ·have n2:(t.kind == 2)=false:=A_ (by omega)
  have m2:(t.kind != 2)=true:=B_ (by omega)
  have n1:(t.kind == 1)=false:=A_ (by omega)
  have m1:(t.kind != 1)=true:=B_ (by omega)
  have g1:(64:Int)≤at_ - first:=h64
  clear hk
  go_wp2
  refine L_ (v:=.tuple #[.agg #[.int .i64 0,.int .i64 0,.string ⟨#[]⟩,.slice none 0 0],.int .i64 2,.int .i64 at_]) (by simp [results,results132,go_sem, *]) rfl ?_
  refine ⟨none,0,rfl,cR.leaf rfl,?_⟩
  first
  | exact HB5.out
  | exact aH HB5.out (by rw [HPW.out];exact H_ _) _ _ _ _
 ·have n2:(t.kind == 2)=false:=A_ (by omega)
  have m2:(t.kind != 2)=true:=B_ (by omega)
  have n1:(t.kind == 1)=false:=A_ (by omega)
  have m1:(t.kind != 1)=true:=B_ (by omega)
  have g1:(64:Int)≤at_ - first:=h64
  clear hk
  go_wp2
  refine L_ (v:=.tuple #[.agg #[.int .i64 0,.int .i64 0,.string ⟨#[]⟩,.slice none 0 0],.int .i64 2,.int .i64 at_]) (by simp [results,results132,go_sem, *]) rfl ?_
  refine ⟨none,0,rfl,cR.leaf rfl,?_⟩
  first
  | exact HB5.out
  | exact aH HB5.out (by rw [HPW.out];exact H_ _) _ _ _ _
 ·have n2:(t.kind == 2)=false:=A_ (by omega)
  have m2:(t.kind != 2)=true:=B_ (by omega)
  have n1:(t.kind == 1)=false:=A_ (by omega)
  have m1:(t.kind != 1)=true:=B_ (by omega)
  have g1:(64:Int)≤at_ - first:=h64
  clear hk
  go_wp2
  refine L_ (v:=.tuple #[.agg #[.int .i64 0,.int .i64 0,.string ⟨#[]⟩,.slice none 0 0],.int .i64 2,.int .i64 at_]) (by simp [results,results132,go_sem, *]) rfl ?_
  refine ⟨none,0,rfl,cR.leaf rfl,?_⟩
  first
  | exact HB5.out
  | exact aH HB5.out (by rw [HPW.out];exact H_ _) _ _ _ _
 ·have n2:(t.kind == 2)=true:=D_ hk
  have m2:(t.kind != 2)=false:=bne_eq_false_iff_eq.2 hk
  have n1:(t.kind == 1)=false:=A_ (by omega)
  have m1:(t.kind != 1)=true:=B_ (by omega)
  have g1:(64:Int)≤at_ - first:=h64
  clear hk
  go_wp2
  refine L_ (v:=.tuple #[.agg #[.int .i64 0,.int .i64 0,.string ⟨#[]⟩,.slice none 0 0],.int .i64 2,.int .i64 at_]) (by simp [results,results132,go_sem, *]) rfl ?_
  refine ⟨none,0,rfl,cR.leaf rfl,?_⟩
  first
  | exact HB5.out
  | exact aH HB5.out (by rw [HPW.out];exact H_ _) _ _ _ _
 ·have n2:(t.kind == 2)=false:=A_ (by omega)
  have m2:(t.kind != 2)=true:=B_ (by omega)
  have n1:(t.kind == 1)=true:=D_ hk
  have m1:(t.kind != 1)=false:=bne_eq_false_iff_eq.2 hk
  have g1:(64:Int)≤at_ - first:=h64
  clear hk
  go_wp2
  refine L_ (v:=.tuple #[.agg #[.int .i64 0,.int .i64 0,.string ⟨#[]⟩,.slice none 0 0],.int .i64 2,.int .i64 at_]) (by simp [results,results132,go_sem, *]) rfl ?_
  refine ⟨none,0,rfl,cR.leaf rfl,?_⟩
  first
  | exact HB5.out
  | exact aH HB5.out (by rw [HPW.out];exact H_ _) _ _ _ _
 ·have n2:(t.kind == 2)=true:=D_ hk
  have m2:(t.kind != 2)=false:=bne_eq_false_iff_eq.2 hk
  have n1:(t.kind == 1)=false:=A_ (by omega)
  have m1:(t.kind != 1)=true:=B_ (by omega)
  have g1:at_ - first<64:=h64
  clear hk
  go_wp2
  refine L_ (v:=.tuple #[.agg #[.int .i64 0,.int .i64 t.n,.string ⟨#[]⟩,.slice none 0 0],.int .i64 0,.int .i64 (at_+1)]) (by simp [results,results132,go_sem, *]) rfl ?_
  refine ⟨none,0,rfl,cR.leaf rfl,?_⟩
  first
  | exact HB5.out
  | exact aH HB5.out (by rw [HPW.out];exact H_ _) _ _ _ _
 ·have n2:(t.kind == 2)=false:=A_ (by omega)
  have m2:(t.kind != 2)=true:=B_ (by omega)
  have n1:(t.kind == 1)=true:=D_ hk
  have m1:(t.kind != 1)=false:=bne_eq_false_iff_eq.2 hk
  have g1:at_ - first<64:=h64
  clear hk
  go_wp2
  refine L_ (v:=.tuple #[.agg #[.int .i64 1,.int .i64 0,.string t.text,.slice none 0 0],.int .i64 0,.int .i64 (at_+1)]) (by simp [results,results132,go_sem, *]) rfl ?_
  refine ⟨none,0,rfl,cR.leaf rfl,?_⟩
  first
  | exact HB5.out
  | exact aH HB5.out (by rw [HPW.out];exact H_ _) _ _ _ _
def yF (w:World) (k:Nat) (e:Ex) (A:Option Addr) (c:Nat):Prop:=w.heap[k]? = some (.cells #[.int .i64 e.op,.int .i64 e.n,.string e.name,.slice A e.kids.length c] 41 (0,0))
theorem yF.step {w w' k e A c} (h:yF w k e A c) (hb:Below w.heap.size w w'):yF w' k e A c:=bp_ hb h
theorem jX (l A c first at_ t w) (hr:cN.Row [] w A l) (hlc:l.length≤c) (ht:aE l at_=t) (hf0:0≤first) (hf1:first≤1152921504606846976) (h1:first≤at_) (h3:at_≤first+64) (b45 b33 b40 e f k) (hk1:first≤k) (hk2:k≤first+64) (t2) (ht2:aE l k=t2) (k45:(t.kind == 4 && dK t.text ⟨#[45]⟩)=b45) (k33:(t.kind == 4 && dK t.text ⟨#[33]⟩)=b33) (k40:(t.kind == 4 && dK t.text ⟨#[40]⟩)=b40) (R) (hv:b45=false∧b33=false∧b40=true∧t.kind=4∧at_ - first<64∧(∀W,cN.Row [] W A l→Calls prog 122 #[.slice A l.length c,.int .i64 first,.int .i64 (at_+1),.int .i64 1] W (bR W.heap.size (e,f,k) W))∧f≠0∧R=(eD,f,k) ∨
    b45=false∧b33=false∧b40=true∧t.kind=4∧at_ - first<64∧(∀W,cN.Row [] W A l→Calls prog 122 #[.slice A l.length c,.int .i64 first,.int .i64 (at_+1),.int .i64 1] W (bR W.heap.size (e,f,k) W))∧f=0∧(t2.kind == 4 && dK t2.text ⟨#[41]⟩)=false∧R=(eD,11,k) ∨
    b45=false∧b33=false∧b40=true∧t.kind=4∧at_ - first<64∧(∀W,cN.Row [] W A l→Calls prog 122 #[.slice A l.length c,.int .i64 first,.int .i64 (at_+1),.int .i64 1] W (bR W.heap.size (e,f,k) W))∧f=0∧(t2.kind == 4 && dK t2.text ⟨#[41]⟩)=true∧64≤k - first∧R=(eD,2,k) ∨
    b45=false∧b33=false∧b40=true∧t.kind=4∧at_ - first<64∧(∀W,cN.Row [] W A l→Calls prog 122 #[.slice A l.length c,.int .i64 first,.int .i64 (at_+1),.int .i64 1] W (bR W.heap.size (e,f,k) W))∧f=0∧(t2.kind == 4 && dK t2.text ⟨#[41]⟩)=true∧k - first<64∧R=(e,0,k+1) ∨
    b45=true∧b33=false∧b40=false∧t.kind=4∧at_ - first<64∧(∀W,cN.Row [] W A l→Calls prog 132 #[.slice A l.length c,.int .i64 first,.int .i64 (at_+1)] W (bR W.heap.size (e,f,k) W))∧f≠0∧R=(eD,f,k) ∨
    b45=true∧b33=false∧b40=false∧t.kind=4∧at_ - first<64∧(∀W,cN.Row [] W A l→Calls prog 132 #[.slice A l.length c,.int .i64 first,.int .i64 (at_+1)] W (bR W.heap.size (e,f,k) W))∧f=0∧R=(fR 2 e,0,k) ∨
    b45=false∧b33=true∧b40=false∧t.kind=4∧at_ - first<64∧(∀W,cN.Row [] W A l→Calls prog 132 #[.slice A l.length c,.int .i64 first,.int .i64 (at_+1)] W (bR W.heap.size (e,f,k) W))∧f≠0∧R=(eD,f,k) ∨
    b45=false∧b33=true∧b40=false∧t.kind=4∧at_ - first<64∧(∀W,cN.Row [] W A l→Calls prog 132 #[.slice A l.length c,.int .i64 first,.int .i64 (at_+1)] W (bR W.heap.size (e,f,k) W))∧f=0∧R=(fR 3 e,0,k)) :
  Calls prog 132 #[.slice A l.length c,.int .i64 first,.int .i64 at_] w (bR w.heap.size R w):=by
 have hu:True:=And.elim (fun _ _=>trivial) (T_ (T_ hf0 hf1) (T_ h1 h3))
 clear hu
 have HR:=hid hr
 have HTK:=hid ht
 have HV:=hid hv
 have HT2K:=hid ht2
 have K45:Hid ((t.kind == 4 && dK t.text ⟨#[45]⟩)=b45):=hid k45
 have K33:Hid ((t.kind == 4 && dK t.text ⟨#[33]⟩)=b33):=hid k33
 have K40:Hid ((t.kind == 4 && dK t.text ⟨#[40]⟩)=b40):=hid k40
 clear hr ht k45 k33 k40 hv ht2
 go_enter func132,ntmps132
 go_wp2_with fail
 obtain ⟨w0,hw0,hb0,hz0⟩:=alo_ w (.cells #[.int .i64 0,.int .i64 0,.string ⟨#[]⟩,.slice none 0 0] 41 (0,0))
 obtain ⟨P,hP⟩:=nm_ w.heap.size
 rw [hw0,hP]
 rw [hP] at hz0
 have HPW:=hid hP
 have HB0:=hid hb0
 have HP0:=hid hz0
 clear hb0 hz0 hw0 hP
 refine (jC l A c at_ w0 (HR.out.keep (Same.of_below HB0.out)) hlc).mono ?_
 rw [HTK.out]
 rintro r w1 ⟨rfl,hb1⟩
 have HB1:=tm_ HB0 hb1
 have HP1:=bl_ hb1 HP0
 clear hb1
 go_wp2_with fail
 obtain ⟨w2,hw2,hb2,hz2⟩:=alo_ w1 (.cells #[.int .i64 t.kind,.string t.text,.int .i64 t.n,.int .i64 t.at_] 60 (0,0))
 obtain ⟨T,hT⟩:=nm_ w1.heap.size
 rw [hw2,hT]
 rw [hT] at hz2
 have HPT:Hid (P<T):=hid (by rw [←hT];exact aC HP1.out)
 have HB2:=tm_ HB1 hb2
 have HP2:=bl_ hb2 HP1
 have HT2:=hid hz2
 clear hb2 hz2 hw2 hT
 refine (kS t ⟨#[45]⟩ w2).mono ?_
 rw [K45.out]
 rintro r w3 ⟨rfl,hb3⟩
 have HB3:=tm_ HB2 hb3
 have HP3:=bl_ hb3 HP2
 have HT3:=bl_ hb3 HT2
 clear hb3
 (try clear x0 x1 x2 x3)
 obtain ⟨⟨x0,x1,x2,x3⟩,_⟩:=cC HT3.out
 go_wp2_with fail
 refine (kS t ⟨#[33]⟩ w3).mono ?_
 rw [K33.out]
 rintro r w4 ⟨rfl,hb4⟩
 have HB4:=tm_ HB3 hb4
 have HP4:=bl_ hb4 HP3
 have HT4:=bl_ hb4 HT3
 clear hb4
 (try clear x0 x1 x2 x3)
 obtain ⟨⟨x0,x1,x2,x3⟩,_⟩:=cC HT4.out
 go_wp2_with fail
 refine (kS t ⟨#[40]⟩ w4).mono ?_
 rw [K40.out]
 rintro r w5 ⟨rfl,hb5⟩
 have HB5:=tm_ HB4 hb5
 have HP5:=bl_ hb5 HP4
 have HT5:=bl_ hb5 HT4
 clear hb5
 (try clear x0 x1 x2 x3)
 obtain ⟨⟨x0,x1,x2,x3⟩,_⟩:=cC HT5.out
 have hpt:=HPT.out
 obtain ⟨⟨z0,z1,z2,z3⟩,f0,f1,f2,f3⟩:=aK HP5.out
 rcases HV.out with ⟨rfl,rfl,rfl,hk,h64,rd,hf,rfl⟩ | ⟨rfl,rfl,rfl,hk,h64,rd,hf,k41,rfl⟩ | ⟨rfl,rfl,rfl,hk,h64,rd,hf,k41,hk64,rfl⟩ | ⟨rfl,rfl,rfl,hk,h64,rd,hf,k41,hk64,rfl⟩ | ⟨rfl,rfl,rfl,hk,h64,rd,hf,rfl⟩ | ⟨rfl,rfl,rfl,hk,h64,rd,hf,rfl⟩ | ⟨rfl,rfl,rfl,hk,h64,rd,hf,rfl⟩ | ⟨rfl,rfl,rfl,hk,h64,rd,hf,rfl⟩
 ·have n2:(t.kind == 2)=false:=A_ (by omega)
  have m2:(t.kind != 2)=true:=B_ (by omega)
  have n1:(t.kind == 1)=false:=A_ (by omega)
  have m1:(t.kind != 1)=true:=B_ (by omega)
  have g1:at_ - first<64:=h64
  have RD:=hid rd
  clear hk rd
  have nf:(f != 0)=true:=kB hf
  clear hf
  go_wp2_with fail
  refine (RD.out w5 (HR.out.keep (Same.of_below HB5.out))).mono ?_
  rintro r w6 ⟨B,d,rfl,hx6,hb6⟩
  have HB6:=tm_ HB5 hb6
  have HP6:=bl_ hb6 HP5
  have HT6:=bl_ hb6 HT5
  clear hx6 hb6
  clear z0 z1 z2 z3 f0 f1 f2 f3
  (try clear x0 x1 x2 x3)
  obtain ⟨⟨z0,z1,z2,z3⟩,f0,f1,f2,f3⟩:=aK HP6.out
  obtain ⟨⟨x0,x1,x2,x3⟩,_⟩:=cC HT6.out
  have hl6:=aC HP6.out
  go_wp2
  refine L_ (v:=.tuple #[.agg #[.int .i64 0,.int .i64 0,.string ⟨#[]⟩,.slice none 0 0],.int .i64 f,.int .i64 k]) (by simp [results,results132,go_sem, *]) rfl ?_
  refine ⟨none,0,rfl,cR.leaf rfl,?_⟩
  first
  | exact (aH HB6.out (by rw [HPW.out];exact H_ _) _ _ _ _).alloc (by simpa using HB6.out.size) _
  | exact aH (HB6.out.alloc HB6.out.size _) (by rw [HPW.out];exact H_ _) _ _ _ _
 ·have n2:(t.kind == 2)=false:=A_ (by omega)
  have m2:(t.kind != 2)=true:=B_ (by omega)
  have n1:(t.kind == 1)=false:=A_ (by omega)
  have m1:(t.kind != 1)=true:=B_ (by omega)
  have g1:at_ - first<64:=h64
  have RD:=hid rd
  clear hk rd
  subst hf
  have K41:=hid k41
  clear k41
  go_wp2_with fail
  refine (RD.out w5 (HR.out.keep (Same.of_below HB5.out))).mono ?_
  rintro r w6 ⟨B,d,rfl,hx6,hb6⟩
  have HB6:=tm_ HB5 hb6
  have HP6:=bl_ hb6 HP5
  have HT6:=bl_ hb6 HT5
  have HX6:=hid hx6
  clear hx6 hb6
  clear z0 z1 z2 z3 f0 f1 f2 f3
  (try clear x0 x1 x2 x3)
  obtain ⟨⟨z0,z1,z2,z3⟩,f0,f1,f2,f3⟩:=aK HP6.out
  obtain ⟨⟨x0,x1,x2,x3⟩,_⟩:=cC HT6.out
  go_wp2_with fail
  obtain ⟨w7,hw7,hb7,_⟩:=alo_ w6 (.cells #[.int .i64 e.op,.int .i64 e.n,.string e.name,.slice B e.kids.length d] 41 (0,0))
  have hq7:yF w7 w6.heap.size e B d:=hw7▸I_ _ _
  obtain ⟨Q,hQ⟩:=nm_ w6.heap.size
  try rw [hw7,hQ]
  rw [hQ] at hq7
  have HPQ:Hid (P<Q):=hid (by rw [←hQ];exact aC HP6.out)
  have HB7:=tm_ HB6 hb7
  have HP7:=bl_ hb7 HP6
  have HT7:=bl_ hb7 HT6
  have HX7:=hid (HX6.out.below hb7)
  have HQ7:=hid hq7
  clear hb7 hq7 hw7 hQ
  clear z0 z1 z2 z3 f0 f1 f2 f3
  (try clear x0 x1 x2 x3)
  obtain ⟨⟨z0,z1,z2,z3⟩,f0,f1,f2,f3⟩:=aK HP7.out
  obtain ⟨⟨x0,x1,x2,x3⟩,_⟩:=cC HT7.out
  go_wp2_with fail
  refine (jC l A c k w7 (HR.out.keep (Same.of_below HB7.out)) hlc).mono ?_
  rw [HT2K.out]
  rintro r w8 ⟨rfl,hb8⟩
  have HB8:=tm_ HB7 hb8
  have HP8:=bl_ hb8 HP7
  have HT8:=bl_ hb8 HT7
  have HX8:=hid (HX7.out.below hb8)
  have HQ8:=hid (HQ7.out.step hb8)
  clear hb8
  go_wp2_with fail
  refine (kS t2 ⟨#[41]⟩ w8).mono ?_
  rw [K41.out]
  rintro r w9 ⟨rfl,hb9⟩
  have HB9:=tm_ HB8 hb9
  have HP9:=bl_ hb9 HP8
  have HT9:=bl_ hb9 HT8
  have HX9:=hid (HX8.out.below hb9)
  have HQ9:=hid (HQ8.out.step hb9)
  clear hb9
  clear z0 z1 z2 z3 f0 f1 f2 f3
  (try clear x0 x1 x2 x3)
  obtain ⟨⟨z0,z1,z2,z3⟩,f0,f1,f2,f3⟩:=aK HP9.out
  obtain ⟨⟨x0,x1,x2,x3⟩,_⟩:=cC HT9.out
  obtain ⟨⟨y0,y1,y2,y3⟩,_⟩:=cC HQ9.out
  have hpq:=HPQ.out
  go_wp2
  refine L_ (v:=.tuple #[.agg #[.int .i64 0,.int .i64 0,.string ⟨#[]⟩,.slice none 0 0],.int .i64 11,.int .i64 k]) (by simp [results,results132,go_sem, *]) rfl ?_
  refine ⟨none,0,rfl,cR.leaf rfl,?_⟩
  exact aH HB9.out (by rw [HPW.out];exact H_ _) _ _ _ _
 ·have n2:(t.kind == 2)=false:=A_ (by omega)
  have m2:(t.kind != 2)=true:=B_ (by omega)
  have n1:(t.kind == 1)=false:=A_ (by omega)
  have m1:(t.kind != 1)=true:=B_ (by omega)
  have g1:at_ - first<64:=h64
  have RD:=hid rd
  clear hk rd
  subst hf
  have K41:=hid k41
  clear k41
  have g2:(64:Int)≤k - first:=hk64
  go_wp2_with fail
  refine (RD.out w5 (HR.out.keep (Same.of_below HB5.out))).mono ?_
  rintro r w6 ⟨B,d,rfl,hx6,hb6⟩
  have HB6:=tm_ HB5 hb6
  have HP6:=bl_ hb6 HP5
  have HT6:=bl_ hb6 HT5
  have HX6:=hid hx6
  clear hx6 hb6
  clear z0 z1 z2 z3 f0 f1 f2 f3
  (try clear x0 x1 x2 x3)
  obtain ⟨⟨z0,z1,z2,z3⟩,f0,f1,f2,f3⟩:=aK HP6.out
  obtain ⟨⟨x0,x1,x2,x3⟩,_⟩:=cC HT6.out
  go_wp2_with fail
  obtain ⟨w7,hw7,hb7,_⟩:=alo_ w6 (.cells #[.int .i64 e.op,.int .i64 e.n,.string e.name,.slice B e.kids.length d] 41 (0,0))
  have hq7:yF w7 w6.heap.size e B d:=hw7▸I_ _ _
  obtain ⟨Q,hQ⟩:=nm_ w6.heap.size
  try rw [hw7,hQ]
  rw [hQ] at hq7
  have HPQ:Hid (P<Q):=hid (by rw [←hQ];exact aC HP6.out)
  have HB7:=tm_ HB6 hb7
  have HP7:=bl_ hb7 HP6
  have HT7:=bl_ hb7 HT6
  have HX7:=hid (HX6.out.below hb7)
  have HQ7:=hid hq7
  clear hb7 hq7 hw7 hQ
  clear z0 z1 z2 z3 f0 f1 f2 f3
  (try clear x0 x1 x2 x3)
  obtain ⟨⟨z0,z1,z2,z3⟩,f0,f1,f2,f3⟩:=aK HP7.out
  obtain ⟨⟨x0,x1,x2,x3⟩,_⟩:=cC HT7.out
  go_wp2_with fail
  refine (jC l A c k w7 (HR.out.keep (Same.of_below HB7.out)) hlc).mono ?_
  rw [HT2K.out]
  rintro r w8 ⟨rfl,hb8⟩
  have HB8:=tm_ HB7 hb8
  have HP8:=bl_ hb8 HP7
  have HT8:=bl_ hb8 HT7
  have HX8:=hid (HX7.out.below hb8)
  have HQ8:=hid (HQ7.out.step hb8)
  clear hb8
  go_wp2_with fail
  refine (kS t2 ⟨#[41]⟩ w8).mono ?_
  rw [K41.out]
  rintro r w9 ⟨rfl,hb9⟩
  have HB9:=tm_ HB8 hb9
  have HP9:=bl_ hb9 HP8
  have HT9:=bl_ hb9 HT8
  have HX9:=hid (HX8.out.below hb9)
  have HQ9:=hid (HQ8.out.step hb9)
  clear hb9
  clear z0 z1 z2 z3 f0 f1 f2 f3
  (try clear x0 x1 x2 x3)
  obtain ⟨⟨z0,z1,z2,z3⟩,f0,f1,f2,f3⟩:=aK HP9.out
  obtain ⟨⟨x0,x1,x2,x3⟩,_⟩:=cC HT9.out
  obtain ⟨⟨y0,y1,y2,y3⟩,_⟩:=cC HQ9.out
  have hpq:=HPQ.out
  go_wp2
  refine L_ (v:=.tuple #[.agg #[.int .i64 0,.int .i64 0,.string ⟨#[]⟩,.slice none 0 0],.int .i64 2,.int .i64 k]) (by simp [results,results132,go_sem, *]) rfl ?_
  refine ⟨none,0,rfl,cR.leaf rfl,?_⟩
  exact aH HB9.out (by rw [HPW.out];exact H_ _) _ _ _ _
 ·have n2:(t.kind == 2)=false:=A_ (by omega)
  have m2:(t.kind != 2)=true:=B_ (by omega)
  have n1:(t.kind == 1)=false:=A_ (by omega)
  have m1:(t.kind != 1)=true:=B_ (by omega)
  have g1:at_ - first<64:=h64
  have RD:=hid rd
  clear hk rd
  subst hf
  have K41:=hid k41
  clear k41
  have g2:k - first<64:=hk64
  go_wp2_with fail
  refine (RD.out w5 (HR.out.keep (Same.of_below HB5.out))).mono ?_
  rintro r w6 ⟨B,d,rfl,hx6,hb6⟩
  have HB6:=tm_ HB5 hb6
  have HP6:=bl_ hb6 HP5
  have HT6:=bl_ hb6 HT5
  have HX6:=hid hx6
  clear hx6 hb6
  clear z0 z1 z2 z3 f0 f1 f2 f3
  (try clear x0 x1 x2 x3)
  obtain ⟨⟨z0,z1,z2,z3⟩,f0,f1,f2,f3⟩:=aK HP6.out
  obtain ⟨⟨x0,x1,x2,x3⟩,_⟩:=cC HT6.out
  go_wp2_with fail
  obtain ⟨w7,hw7,hb7,_⟩:=alo_ w6 (.cells #[.int .i64 e.op,.int .i64 e.n,.string e.name,.slice B e.kids.length d] 41 (0,0))
  have hq7:yF w7 w6.heap.size e B d:=hw7▸I_ _ _
  obtain ⟨Q,hQ⟩:=nm_ w6.heap.size
  try rw [hw7,hQ]
  rw [hQ] at hq7
  have HPQ:Hid (P<Q):=hid (by rw [←hQ];exact aC HP6.out)
  have HB7:=tm_ HB6 hb7
  have HP7:=bl_ hb7 HP6
  have HT7:=bl_ hb7 HT6
  have HX7:=hid (HX6.out.below hb7)
  have HQ7:=hid hq7
  clear hb7 hq7 hw7 hQ
  clear z0 z1 z2 z3 f0 f1 f2 f3
  (try clear x0 x1 x2 x3)
  obtain ⟨⟨z0,z1,z2,z3⟩,f0,f1,f2,f3⟩:=aK HP7.out
  obtain ⟨⟨x0,x1,x2,x3⟩,_⟩:=cC HT7.out
  go_wp2_with fail
  refine (jC l A c k w7 (HR.out.keep (Same.of_below HB7.out)) hlc).mono ?_
  rw [HT2K.out]
  rintro r w8 ⟨rfl,hb8⟩
  have HB8:=tm_ HB7 hb8
  have HP8:=bl_ hb8 HP7
  have HT8:=bl_ hb8 HT7
  have HX8:=hid (HX7.out.below hb8)
  have HQ8:=hid (HQ7.out.step hb8)
  clear hb8
  go_wp2_with fail
  refine (kS t2 ⟨#[41]⟩ w8).mono ?_
  rw [K41.out]
  rintro r w9 ⟨rfl,hb9⟩
  have HB9:=tm_ HB8 hb9
  have HP9:=bl_ hb9 HP8
  have HT9:=bl_ hb9 HT8
  have HX9:=hid (HX8.out.below hb9)
  have HQ9:=hid (HQ8.out.step hb9)
  clear hb9
  clear z0 z1 z2 z3 f0 f1 f2 f3
  (try clear x0 x1 x2 x3)
  obtain ⟨⟨z0,z1,z2,z3⟩,f0,f1,f2,f3⟩:=aK HP9.out
  obtain ⟨⟨x0,x1,x2,x3⟩,_⟩:=cC HT9.out
  obtain ⟨⟨y0,y1,y2,y3⟩,_⟩:=cC HQ9.out
  have hpq:=HPQ.out
  go_wp2
  refine L_ (v:=.tuple #[.agg #[.int .i64 e.op,.int .i64 e.n,.string e.name,.slice B e.kids.length d],.int .i64 0,.int .i64 (k+1)]) (by simp [results,results132,go_sem, *]) rfl ?_
  refine ⟨B,d,rfl,((HX9.out.keep (bS w9 P _ _ _ _) (fun q hq=>by simp at hq;subst hq;exact aC HP5.out)).more (fun q hq=>.inl (by have:=HB5.out.size;show q<w5.heap.size;omega))),?_⟩
  exact aH HB9.out (by rw [HPW.out];exact H_ _) _ _ _ _
 ·have n2:(t.kind == 2)=false:=A_ (by omega)
  have m2:(t.kind != 2)=true:=B_ (by omega)
  have n1:(t.kind == 1)=false:=A_ (by omega)
  have m1:(t.kind != 1)=true:=B_ (by omega)
  have g1:at_ - first<64:=h64
  have RD:=hid rd
  clear hk rd
  have nf:(f != 0)=true:=kB hf
  clear hf
  go_wp2_with fail
  refine (RD.out w5 (HR.out.keep (Same.of_below HB5.out))).mono ?_
  rintro r w6 ⟨B,d,rfl,hx6,hb6⟩
  have HB6:=tm_ HB5 hb6
  have HP6:=bl_ hb6 HP5
  have HT6:=bl_ hb6 HT5
  clear hx6 hb6
  clear z0 z1 z2 z3 f0 f1 f2 f3
  (try clear x0 x1 x2 x3)
  obtain ⟨⟨z0,z1,z2,z3⟩,f0,f1,f2,f3⟩:=aK HP6.out
  obtain ⟨⟨x0,x1,x2,x3⟩,_⟩:=cC HT6.out
  have hl6:=aC HP6.out
  go_wp2
  refine L_ (v:=.tuple #[.agg #[.int .i64 0,.int .i64 0,.string ⟨#[]⟩,.slice none 0 0],.int .i64 f,.int .i64 k]) (by simp [results,results132,go_sem, *]) rfl ?_
  refine ⟨none,0,rfl,cR.leaf rfl,?_⟩
  first
  | exact (aH HB6.out (by rw [HPW.out];exact H_ _) _ _ _ _).alloc (by simpa using HB6.out.size) _
  | exact aH (HB6.out.alloc HB6.out.size _) (by rw [HPW.out];exact H_ _) _ _ _ _
 ·have n2:(t.kind == 2)=false:=A_ (by omega)
  have m2:(t.kind != 2)=true:=B_ (by omega)
  have n1:(t.kind == 1)=false:=A_ (by omega)
  have m1:(t.kind != 1)=true:=B_ (by omega)
  have g1:at_ - first<64:=h64
  have RD:=hid rd
  clear hk rd
  subst hf
  go_wp2_with fail
  refine (RD.out w5 (HR.out.keep (Same.of_below HB5.out))).mono ?_
  rintro r w6 ⟨B,d,rfl,hx6,hb6⟩
  have HB6:=tm_ HB5 hb6
  have HP6:=bl_ hb6 HP5
  have HT6:=bl_ hb6 HT5
  have HX6:=hid hx6
  clear hx6 hb6
  clear z0 z1 z2 z3 f0 f1 f2 f3
  (try clear x0 x1 x2 x3)
  obtain ⟨⟨z0,z1,z2,z3⟩,f0,f1,f2,f3⟩:=aK HP6.out
  obtain ⟨⟨x0,x1,x2,x3⟩,_⟩:=cC HT6.out
  go_upto_region 24 with fail
  obtain ⟨w7,hw7,hb7,_⟩:=alo_ w6 (.cells #[.int .i64 e.op,.int .i64 e.n,.string e.name,.slice B e.kids.length d] 41 (0,0))
  have hq7:yF w7 w6.heap.size e B d:=hw7▸I_ _ _
  obtain ⟨Q,hQ⟩:=nm_ w6.heap.size
  try rw [hw7,hQ]
  rw [hQ] at hq7
  have HPQ:Hid (P<Q):=hid (by rw [←hQ];exact aC HP6.out)
  have HB7:=tm_ HB6 hb7
  have HP7:=bl_ hb7 HP6
  have HT7:=bl_ hb7 HT6
  have HX7:=hid (HX6.out.below hb7)
  have HQ7:=hid hq7
  clear hb7 hq7 hw7 hQ
  clear z0 z1 z2 z3 f0 f1 f2 f3
  (try clear x0 x1 x2 x3)
  obtain ⟨⟨z0,z1,z2,z3⟩,f0,f1,f2,f3⟩:=aK HP7.out
  obtain ⟨⟨x0,x1,x2,x3⟩,_⟩:=cC HT7.out
  obtain ⟨⟨y0,y1,y2,y3⟩,_⟩:=cC HQ7.out
  have hpq:=HPQ.out
  have hl7:=aC HP7.out
  go_wp2
  refine L_ (v:=.tuple #[.agg #[.int .i64 2,.int .i64 0,.string ⟨#[]⟩,.slice (some ⟨w7.heap.size,0,none⟩) 1 1],.int .i64 0,.int .i64 k]) (by simp [results,results132,go_sem, *]) rfl ?_
  have hS:=bS w7 P (.int .i64 2) (.int .i64 0) (.string ⟨#[]⟩) (.slice (some ⟨w7.heap.size,0,none⟩) 1 1)
  have hXS:=(HX7.out.keep hS (fun q hq=>by simp at hq;subst hq;exact aC HP5.out)).more (Q:=fun q=>q<w.heap.size) (fun q hq=>.inl (by have:=HB5.out.size;show q<w5.heap.size;omega))
  refine ⟨some ⟨w7.heap.size,0,none⟩,1,rfl,?_,?_⟩
  ·refine cR.one (k:=w7.heap.size) (t:=41) (by have:=HB7.out.size;omega) (hXS.below ((J_ _ _).alloc le_ _)) ?_ 2
   have h:=I_ ((((w7.setCell ⟨P,0,none⟩ (.int .i64 2)).setCell ⟨P,1,none⟩ (.int .i64 0)).setCell ⟨P,2,none⟩ (.string ⟨#[]⟩)).setCell ⟨P,3,none⟩ (.slice (some ⟨w7.heap.size,0,none⟩) 1 1)) (.cells #[.int .i64 e.op,.int .i64 e.n,.string e.name,.slice B e.kids.length d] 41 (0,0))
   simpa using h
  ·exact (aH HB7.out (by rw [HPW.out];exact H_ _) _ _ _ _).alloc (by simpa using HB7.out.size) _
 ·have n2:(t.kind == 2)=false:=A_ (by omega)
  have m2:(t.kind != 2)=true:=B_ (by omega)
  have n1:(t.kind == 1)=false:=A_ (by omega)
  have m1:(t.kind != 1)=true:=B_ (by omega)
  have g1:at_ - first<64:=h64
  have RD:=hid rd
  clear hk rd
  have nf:(f != 0)=true:=kB hf
  clear hf
  go_wp2_with fail
  refine (RD.out w5 (HR.out.keep (Same.of_below HB5.out))).mono ?_
  rintro r w6 ⟨B,d,rfl,hx6,hb6⟩
  have HB6:=tm_ HB5 hb6
  have HP6:=bl_ hb6 HP5
  have HT6:=bl_ hb6 HT5
  clear hx6 hb6
  clear z0 z1 z2 z3 f0 f1 f2 f3
  (try clear x0 x1 x2 x3)
  obtain ⟨⟨z0,z1,z2,z3⟩,f0,f1,f2,f3⟩:=aK HP6.out
  obtain ⟨⟨x0,x1,x2,x3⟩,_⟩:=cC HT6.out
  have hl6:=aC HP6.out
  go_wp2
  refine L_ (v:=.tuple #[.agg #[.int .i64 0,.int .i64 0,.string ⟨#[]⟩,.slice none 0 0],.int .i64 f,.int .i64 k]) (by simp [results,results132,go_sem, *]) rfl ?_
  refine ⟨none,0,rfl,cR.leaf rfl,?_⟩
  first
  | exact (aH HB6.out (by rw [HPW.out];exact H_ _) _ _ _ _).alloc (by simpa using HB6.out.size) _
  | exact aH (HB6.out.alloc HB6.out.size _) (by rw [HPW.out];exact H_ _) _ _ _ _
 ·have n2:(t.kind == 2)=false:=A_ (by omega)
  have m2:(t.kind != 2)=true:=B_ (by omega)
  have n1:(t.kind == 1)=false:=A_ (by omega)
  have m1:(t.kind != 1)=true:=B_ (by omega)
  have g1:at_ - first<64:=h64
  have RD:=hid rd
  clear hk rd
  subst hf
  go_wp2_with fail
  refine (RD.out w5 (HR.out.keep (Same.of_below HB5.out))).mono ?_
  rintro r w6 ⟨B,d,rfl,hx6,hb6⟩
  have HB6:=tm_ HB5 hb6
  have HP6:=bl_ hb6 HP5
  have HT6:=bl_ hb6 HT5
  have HX6:=hid hx6
  clear hx6 hb6
  clear z0 z1 z2 z3 f0 f1 f2 f3
  (try clear x0 x1 x2 x3)
  obtain ⟨⟨z0,z1,z2,z3⟩,f0,f1,f2,f3⟩:=aK HP6.out
  obtain ⟨⟨x0,x1,x2,x3⟩,_⟩:=cC HT6.out
  go_upto_region 24 with fail
  obtain ⟨w7,hw7,hb7,_⟩:=alo_ w6 (.cells #[.int .i64 e.op,.int .i64 e.n,.string e.name,.slice B e.kids.length d] 41 (0,0))
  have hq7:yF w7 w6.heap.size e B d:=hw7▸I_ _ _
  obtain ⟨Q,hQ⟩:=nm_ w6.heap.size
  try rw [hw7,hQ]
  rw [hQ] at hq7
  have HPQ:Hid (P<Q):=hid (by rw [←hQ];exact aC HP6.out)
  have HB7:=tm_ HB6 hb7
  have HP7:=bl_ hb7 HP6
  have HT7:=bl_ hb7 HT6
  have HX7:=hid (HX6.out.below hb7)
  have HQ7:=hid hq7
  clear hb7 hq7 hw7 hQ
  clear z0 z1 z2 z3 f0 f1 f2 f3
  (try clear x0 x1 x2 x3)
  obtain ⟨⟨z0,z1,z2,z3⟩,f0,f1,f2,f3⟩:=aK HP7.out
  obtain ⟨⟨x0,x1,x2,x3⟩,_⟩:=cC HT7.out
  obtain ⟨⟨y0,y1,y2,y3⟩,_⟩:=cC HQ7.out
  have hpq:=HPQ.out
  have hl7:=aC HP7.out
  go_wp2
  refine L_ (v:=.tuple #[.agg #[.int .i64 3,.int .i64 0,.string ⟨#[]⟩,.slice (some ⟨w7.heap.size,0,none⟩) 1 1],.int .i64 0,.int .i64 k]) (by simp [results,results132,go_sem, *]) rfl ?_
  have hS:=bS w7 P (.int .i64 3) (.int .i64 0) (.string ⟨#[]⟩) (.slice (some ⟨w7.heap.size,0,none⟩) 1 1)
  have hXS:=(HX7.out.keep hS (fun q hq=>by simp at hq;subst hq;exact aC HP5.out)).more (Q:=fun q=>q<w.heap.size) (fun q hq=>.inl (by have:=HB5.out.size;show q<w5.heap.size;omega))
  refine ⟨some ⟨w7.heap.size,0,none⟩,1,rfl,?_,?_⟩
  ·refine cR.one (k:=w7.heap.size) (t:=41) (by have:=HB7.out.size;omega) (hXS.below ((J_ _ _).alloc le_ _)) ?_ 3
   have h:=I_ ((((w7.setCell ⟨P,0,none⟩ (.int .i64 3)).setCell ⟨P,1,none⟩ (.int .i64 0)).setCell ⟨P,2,none⟩ (.string ⟨#[]⟩)).setCell ⟨P,3,none⟩ (.slice (some ⟨w7.heap.size,0,none⟩) 1 1)) (.cells #[.int .i64 e.op,.int .i64 e.n,.string e.name,.slice B e.kids.length d] 41 (0,0))
   simpa using h
  ·exact (aH HB7.out (by rw [HPW.out];exact H_ _) _ _ _ _).alloc (by simpa using HB7.out.size) _
end Go.Proofs.YtgcfjkfipkfijaaGreatDoor
namespace Go.Proofs.YtgcfjkfipkfijaaGreatDoor
open Go Go.RowKit Go.Lib _root_.Go.Proofs.Tryz
def Qq (B:Int→Ex × Int × Int) (l:List bQ) (first n:Int):Nat→Ex→Int→Int→Ex × Int × Int
 | 0,e,f,k=>(e,f,k)
 | m+1,e,f,k=>
  if f≠0 then (eD,f,k)
  else if uC n (aE l k)<0 then (e,0,k)
  else if 64≤k - first then (eD,2,k)
  else if (B (k+1)).2.1≠0 then (eD,(B (k+1)).2.1,(B (k+1)).2.2)
  else if n=3 then (eY (uC n (aE l k)) e (B (k+1)).1,0,(B (k+1)).2.2)
  else Qq B l first n m (eY (uC n (aE l k)) e (B (k+1)).1) 0 (B (k+1)).2.2
theorem Jw (l A c first at_ n w B) (hr:cN.Row [] w A l) (hlc:l.length≤c) (hf0:0≤first) (hf1:first≤1152921504606846976) (b0) (hb0:first≤b0) (h1:b0≤at_) (h3:at_≤first+64) (hn1:1≤n) (hn5:n≤5) (hB:∀k,b0≤k→k≤first+64→k≤(B k).2.2∧(B k).2.2≤first+64) (rd:∀(k:Int) (W:World),cN.Row [] W A l→b0≤k→k≤first+64→Below w.heap.size w W→Calls prog 122 #[.slice A l.length c,.int .i64 first,.int .i64 k,.int .i64 (n+1)] W (bR W.heap.size (B k) W)) :
  Calls prog 122 #[.slice A l.length c,.int .i64 first,.int .i64 at_,.int .i64 n] w (bR w.heap.size (Qq B l first n 66 (B at_).1 (B at_).2.1 (B at_).2.2) w):=by
 have HR:=hid hr
 have HBB:=hid hB
 have RD:=hid rd
 have n6:(n == 6)=false:=A_ (by omega)
 obtain ⟨ANS,hANS⟩:=nm_ (Qq B l first n 66 (B at_).1 (B at_).2.1 (B at_).2.2)
 rw [hANS]
 have HANS:=hid hANS
 have hb0a:=hB at_ h1 h3
 clear hr hB rd hANS
 go_enter func122,ntmps122
 go_wp2_with fail
 obtain ⟨w0,hw0,hbl0,hz0⟩:=alo_ w (.cells #[.int .i64 0,.int .i64 0,.string ⟨#[]⟩,.slice none 0 0] 41 (0,0))
 obtain ⟨P,hP⟩:=nm_ w.heap.size
 rw [hw0,hP]
 rw [hP] at hz0
 have HPW:=hid hP
 have HB0:=hid hbl0
 have HP0:=hid hz0
 clear hbl0 hz0 hw0 hP
 refine (RD.out at_ w0 (HR.out.keep (Same.of_below HB0.out)) h1 h3 HB0.out).mono ?_
 obtain ⟨⟨e0,f,k0⟩,hp0⟩:∃p,B at_=p:=⟨_,rfl⟩
 rw [hp0] at HANS hb0a ⊢
 rintro r w1 ⟨B1,d1,rfl,hx1,hb1⟩
 simp only at HANS hb0a hx1
 have HB1:=tm_ HB0 hb1
 have HP1:=bl_ hb1 HP0
 have HX1:=hid hx1
 have HPl0:=hid (aC HP0.out)
 clear hb1 hx1 hp0
 go_wp2_with fail
 obtain ⟨w2,hw2,hb2,_⟩:=alo_ w1 (.cells #[.int .i64 e0.op,.int .i64 e0.n,.string e0.name,.slice B1 e0.kids.length d1] 41 (0,0))
 have hq2:yF w2 w1.heap.size e0 B1 d1:=hw2▸I_ _ _
 obtain ⟨E,hE⟩:=nm_ w1.heap.size
 rw [hw2,hE]
 rw [hE] at hq2
 have HPE:Hid (P<E):=hid (by rw [←hE];exact aC HP1.out)
 have hx2:cR (fun q=>q≤P∨q=E) w2 e0 B1 d1:=(HX1.out.more (Q:=fun q=>q≤P∨q=E) (fun q hq=>by have:=HPl0.out;rcases hq with hq | hq;exact .inl (by show q<w0.heap.size;omega);exact .inr (by omega))).below hb2
 have HB2:=tm_ HB1 hb2
 have HP2:=bl_ hb2 HP1
 have HX2:=hid hx2
 have HQ2:=hid hq2
 clear hb2 hq2 hx2 hw2 hE
 go_loopg [13] 67 (fun g s13 w'=>∃(m:Nat) (e:Ex) (k:Int) (B':Option Addr) (d':Nat),s13=.int .i64 k∧Qq B l first n m e f k=ANS∧m<g∧first+66 - m≤k∧b0≤k∧k≤first+64 ∧
  yF w' E e B' d'∧cR (fun q=>q≤P∨q=E) w' e B' d'∧w'.heap[P]? = some (.cells #[.int .i64 0,.int .i64 0,.string ⟨#[]⟩,.slice none 0 0] 41 (0,0))∧Below w.heap.size w w')
 case atStart=>exact ⟨66,e0,k0,B1,d1,rfl,HANS.out,by omega,by omega,by omega,by omega,HQ2.out,HX2.out,HP2.out,HB2.out⟩
 case round=>
  obtain ⟨m,e,k,B',d',rfl,hans,hmg,hmk,hk1,hk2,hq,hx,hp,hb⟩:=hrel
  obtain ⟨gk,rfl⟩:=pk_ gk 1 (by omega)
  obtain ⟨m,rfl⟩:=pk_ m 1 (by omega)
  rw [Qq] at hans
  have HQ:=hid hq
  have HX:=hid hx
  have HP:=hid hp
  have HB:=hid hb
  have HRr:=hid (HR.out.keep (Same.of_below hb))
  have hpe:=HPE.out
  have hlE:=aC hq
  have hlP:=aC hp
  clear hq hx hp hb HQ2 HX2 HP2 HB2 HX1 HP1 HB1 HP0 HB0 hb0a HANS
  by_cases hf:f=0
  ·subst hf
   rw [K_ (by simp)] at hans
   obtain ⟨t,ht⟩:=nm_ (aE l k)
   obtain ⟨op,hop⟩:=nm_ (uC n t)
   rw [ht,hop] at hans
   have HTK:=hid ht
   have HOP:=hid hop
   have HA:=hid hans
   clear ht hop hans
   go_wp2_with fail
   refine (jC l A c k wr HRr.out hlc).mono ?_
   rw [HTK.out]
   rintro r w3 ⟨rfl,hb3⟩
   have HB3:=hid hb3
   clear hb3
   go_wp2_with fail
   refine (Tb n t w3).mono ?_
   rw [HOP.out]
   rintro r w4 ⟨rfl,hb4⟩
   have hb34:=HB3.out.trans (hb4.mono HB3.out.size)
   have HB4:=hid hb34
   have HQ4:=hid (HQ.out.step hb34)
   have HX4:=hid (HX.out.below hb34)
   have HP4:=hid ((hb34.block P hlP).trans HP.out)
   have HW4:=tm_ HB hb34
   obtain ⟨⟨z0,z1,z2,z3⟩,g0,g1,g2,g3⟩:=aK HP4.out
   obtain ⟨⟨y0,y1,y2,y3⟩,u0,u1,u2,u3⟩:=aK HQ4.out
   clear hb4 hb34
   by_cases ho:op<0
   ·have hans:=HA.out
    rw [M_ ho] at hans
    have HA2:=hid hans
    clear hans
    go_wp2
    refine L_ (v:=.tuple #[.agg #[.int .i64 e.op,.int .i64 e.n,.string e.name,.slice B' e.kids.length d'],.int .i64 0,.int .i64 k]) (by simp [results,results122,go_sem, *]) rfl ?_
    rw [←HA2.out]
    refine ⟨B',d',rfl,(HX4.out.keep (bS w4 P _ _ _ _) (fun q hq=>by simp at hq;subst hq;exact .inl le_)).more (fun q hq=>.inl (.inl (by have:=HPW.out;show q≤P;omega))),?_⟩
    exact aH HW4.out (by rw [HPW.out];exact H_ _) _ _ _ _
   ·have ho':0≤op:=by omega
    have hans:=HA.out
    rw [K_ ho] at hans
    clear ho
    by_cases h64:64≤k - first
    ·rw [M_ h64] at hans
     have HA2:=hid hans
     clear hans
     go_wp2
     refine L_ (v:=.tuple #[.agg #[.int .i64 0,.int .i64 0,.string ⟨#[]⟩,.slice none 0 0],.int .i64 2,.int .i64 k]) (by simp [results,results122,go_sem, *]) rfl ?_
     rw [←HA2.out]
     refine ⟨none,0,rfl,cR.leaf rfl,?_⟩
     first
     | exact HW4.out
     | exact aH HW4.out (by rw [HPW.out];exact H_ _) _ _ _ _
    ·have h64':k - first<64:=by omega
     rw [K_ h64] at hans
     clear h64
     have hbk:=HBB.out (k+1) (by omega) (by omega)
     obtain ⟨⟨e2,f2,k2⟩,hp2⟩:∃p,B (k+1)=p:=⟨_,rfl⟩
     rw [hp2] at hans hbk
     simp only at hans hbk
     have HP2E:=hid hp2
     have HA2:=hid hans
     clear hans hp2
     go_wp2_with fail
     refine (RD.out (k+1) w4 (HR.out.keep (Same.of_below HW4.out)) (by omega) (by omega) HW4.out).mono ?_
     rw [HP2E.out]
     rintro r w5 ⟨B5,d5,rfl,hx5,hb5⟩
     have hx5':cR (fun q=>q<w4.heap.size) w5 e2 B5 d5:=hx5
     have HX5:=hid (HX4.out.below hb5)
     have HY5:=hid (hx5'.more (Q:=fun q=>q≤P∨q=E) (fun q hq=>.inl (by have:=aC HQ4.out;show q<w4.heap.size;rcases hq with hq | hq <;> omega)))
     have HQ5:=hid (HQ4.out.step hb5)
     have HP5:=bl_ hb5 HP4
     have HW5:=tm_ HW4 hb5
     clear hb5 hx5 hx5' z0 z1 z2 z3 g0 g1 g2 g3 y0 y1 y2 y3 u0 u1 u2 u3
     obtain ⟨⟨z0,z1,z2,z3⟩,g0,g1,g2,g3⟩:=aK HP5.out
     obtain ⟨⟨y0,y1,y2,y3⟩,u0,u1,u2,u3⟩:=aK HQ5.out
     have hl5:=aC HP5.out
     have hm5:=aC HQ5.out
     by_cases hf2:f2=0
     ·subst hf2
      have hans:=HA2.out
      rw [K_ (by simp)] at hans
      have HA3:=hid hans
      clear hans
      go_upto_region 11 with fail
      obtain ⟨w6,hw6,hb6,_⟩:=alo_ w5 (.cells #[.int .i64 e2.op,.int .i64 e2.n,.string e2.name,.slice B5 e2.kids.length d5] 41 (0,0))
      have hq6:yF w6 w5.heap.size e2 B5 d5:=hw6▸I_ _ _
      obtain ⟨R,hR⟩:=nm_ w5.heap.size
      try rw [hw6,hR]
      rw [hR] at hq6
      have hEr:E<R:=by rw [←hR];exact aC HQ5.out
      have HX6:=hid (HX5.out.below hb6)
      have HY6:=hid (HY5.out.below hb6)
      have HQ6:=hid (HQ5.out.step hb6)
      have HP6:=bl_ hb6 HP5
      have HR6:=hid hq6
      have HW6:=tm_ HW5 hb6
      clear hb6 hq6 hw6 hR z0 z1 z2 z3 g0 g1 g2 g3 y0 y1 y2 y3 u0 u1 u2 u3 hl5 hm5
      obtain ⟨⟨z0,z1,z2,z3⟩,g0,g1,g2,g3⟩:=aK HP6.out
      obtain ⟨⟨y0,y1,y2,y3⟩,u0,u1,u2,u3⟩:=aK HQ6.out
      obtain ⟨⟨r0,r1,r2,r3⟩,_⟩:=cC HR6.out
      have hl6:=aC HP6.out
      have hm6:=aC HQ6.out
      have hr6:=aC HR6.out
      by_cases hn3:n=3
      ·have n3:(n == 3)=true:=D_ hn3
       have hans:=HA3.out
       rw [M_ hn3] at hans
       have HA4:=hid hans
       clear hans hn3
       go_wp2
       refine L_ (v:=.tuple #[.agg #[.int .i64 op,.int .i64 0,.string ⟨#[]⟩,.slice (some ⟨w6.heap.size,0,none⟩) 2 2],.int .i64 0,.int .i64 k2]) (by simp [results,results122,go_sem, *]) rfl ?_
       rw [←HA4.out]
       have hS1:=bS w6 E (.int .i64 op) (.int .i64 0) (.string ⟨#[]⟩) (.slice (some ⟨w6.heap.size,0,none⟩) 2 2)
       have hS2:=bS ((((w6.setCell ⟨E,0,none⟩ (.int .i64 op)).setCell ⟨E,1,none⟩ (.int .i64 0)).setCell ⟨E,2,none⟩ (.string ⟨#[]⟩)).setCell ⟨E,3,none⟩ (.slice (some ⟨w6.heap.size,0,none⟩) 2 2)) P (.int .i64 op) (.int .i64 0) (.string ⟨#[]⟩) (.slice (some ⟨w6.heap.size,0,none⟩) 2 2)
       have hPW:=HPW.out
       have hX:=(((HX6.out.keep hS1 (fun q hq=>by simp at hq;exact .inr hq)).keep hS2 (fun q hq=>by simp at hq;exact .inl (by omega))).more (Q:=fun q=>q<w.heap.size) (fun q hq=>.inl (.inl (by show q≤P;omega)))).below ((J_ _ _).alloc le_ (.cells #[.int .i64 e.op,.int .i64 e.n,.string e.name,.slice B' e.kids.length d',.int .i64 e2.op,.int .i64 e2.n,.string e2.name,.slice B5 e2.kids.length d5] 41 (0,0)))
       have hY:=(((HY6.out.keep hS1 (fun q hq=>by simp at hq;exact .inr hq)).keep hS2 (fun q hq=>by simp at hq;exact .inl (by omega))).more (Q:=fun q=>q<w.heap.size) (fun q hq=>.inl (.inl (by show q≤P;omega)))).below ((J_ _ _).alloc le_ (.cells #[.int .i64 e.op,.int .i64 e.n,.string e.name,.slice B' e.kids.length d',.int .i64 e2.op,.int .i64 e2.n,.string e2.name,.slice B5 e2.kids.length d5] 41 (0,0)))
       refine ⟨some ⟨w6.heap.size,0,none⟩,2,rfl,?_,?_⟩
       ·refine cR.two (k:=w6.heap.size) (t:=41) (by omega) hX hY ?_ op
        have h:=I_ ((((((((w6.setCell ⟨E,0,none⟩ (.int .i64 op)).setCell ⟨E,1,none⟩ (.int .i64 0)).setCell ⟨E,2,none⟩ (.string ⟨#[]⟩)).setCell ⟨E,3,none⟩ (.slice (some ⟨w6.heap.size,0,none⟩) 2 2)).setCell ⟨P,0,none⟩ (.int .i64 op)).setCell ⟨P,1,none⟩ (.int .i64 0)).setCell ⟨P,2,none⟩ (.string ⟨#[]⟩)).setCell ⟨P,3,none⟩ (.slice (some ⟨w6.heap.size,0,none⟩) 2 2)) (.cells #[.int .i64 e.op,.int .i64 e.n,.string e.name,.slice B' e.kids.length d',.int .i64 e2.op,.int .i64 e2.n,.string e2.name,.slice B5 e2.kids.length d5] 41 (0,0))
        simpa using h
       ·exact (aH (aH HW6.out (by omega) _ _ _ _) (by omega) _ _ _ _).alloc (by simpa using HW6.out.size) _
      ·have n3:(n == 3)=false:=A_ hn3
       have hans:=HA3.out
       rw [K_ hn3] at hans
       have HA4:=hid hans
       clear hans hn3
       go_wp2
       go_roundg gk
       case measure=>omega
       case rel=>
        have hS1:=bS w6 E (.int .i64 op) (.int .i64 0) (.string ⟨#[]⟩) (.slice (some ⟨w6.heap.size,0,none⟩) 2 2)
        have hX:=(HX6.out.keep hS1 (fun q hq=>by simp at hq;exact .inr hq)).below ((J_ _ _).alloc le_ (.cells #[.int .i64 e.op,.int .i64 e.n,.string e.name,.slice B' e.kids.length d',.int .i64 e2.op,.int .i64 e2.n,.string e2.name,.slice B5 e2.kids.length d5] 41 (0,0)))
        have hY:=(HY6.out.keep hS1 (fun q hq=>by simp at hq;exact .inr hq)).below ((J_ _ _).alloc le_ (.cells #[.int .i64 e.op,.int .i64 e.n,.string e.name,.slice B' e.kids.length d',.int .i64 e2.op,.int .i64 e2.n,.string e2.name,.slice B5 e2.kids.length d5] 41 (0,0)))
        have hPW:=HPW.out
        refine ⟨m,eY op e e2,k2,some ⟨w6.heap.size,0,none⟩,2,rfl,HA4.out,by omega,by omega,by omega,by omega,?_,?_,?_,?_⟩
        ·exact (Below.heap_alloc _ _ _ (by simpa using hm6)).trans (vY HQ6.out (.int .i64 op) (.int .i64 0) (.string ⟨#[]⟩) (.slice (some ⟨w6.heap.size,0,none⟩) 2 2))
        ·refine cR.two (k:=w6.heap.size) (t:=41) (by omega) hX hY ?_ op
         have h:=I_ ((((w6.setCell ⟨E,0,none⟩ (.int .i64 op)).setCell ⟨E,1,none⟩ (.int .i64 0)).setCell ⟨E,2,none⟩ (.string ⟨#[]⟩)).setCell ⟨E,3,none⟩ (.slice (some ⟨w6.heap.size,0,none⟩) 2 2)) (.cells #[.int .i64 e.op,.int .i64 e.n,.string e.name,.slice B' e.kids.length d',.int .i64 e2.op,.int .i64 e2.n,.string e2.name,.slice B5 e2.kids.length d5] 41 (0,0))
         simpa using h
        ·exact (Below.heap_alloc _ _ _ (by simpa using hl6)).trans (hS1.heap (by simp;omega) HP6.out)
        ·exact (aH HW6.out (by omega) _ _ _ _).alloc (by simpa using HW6.out.size) _
     ·have hans:=HA2.out
      rw [M_ hf2] at hans
      have HA3:=hid hans
      have nf2:(f2 != 0)=true:=kB hf2
      clear hans hf2
      go_wp2
      refine L_ (v:=.tuple #[.agg #[.int .i64 0,.int .i64 0,.string ⟨#[]⟩,.slice none 0 0],.int .i64 f2,.int .i64 k2]) (by simp [results,results122,go_sem, *]) rfl ?_
      rw [←HA3.out]
      refine ⟨none,0,rfl,cR.leaf rfl,?_⟩
      first
      | exact (aH HW5.out (by rw [HPW.out];exact H_ _) _ _ _ _).alloc (by simpa using HW5.out.size) _
      | exact aH (HW5.out.alloc HW5.out.size _) (by rw [HPW.out];exact H_ _) _ _ _ _
  ·rw [M_ hf] at hans
   have HA2:=hid hans
   have nf:(f == 0)=false:=A_ hf
   obtain ⟨⟨z0,z1,z2,z3⟩,g0,g1,g2,g3⟩:=aK HP.out
   clear hans hf
   go_wp2
   refine L_ (v:=.tuple #[.agg #[.int .i64 0,.int .i64 0,.string ⟨#[]⟩,.slice none 0 0],.int .i64 f,.int .i64 k]) (by simp [results,results122,go_sem, *]) rfl ?_
   rw [←HA2.out]
   refine ⟨none,0,rfl,cR.leaf rfl,?_⟩
   first
   | exact HB.out
   | exact aH HB.out (by rw [HPW.out];exact H_ _) _ _ _ _
end Go.Proofs.YtgcfjkfipkfijaaGreatDoor
namespace Go.Proofs.YtgcfjkfipkfijaaGreatDoor
open Go Go.RowKit Go.Lib _root_.Go.Proofs.Tryz
def qK (p:Ex × St):Ex × Int × Int:=if p.2.bad≠0 then (eD,p.2.bad,p.2.at_) else (p.1,0,p.2.at_)
theorem dS {p} (h:p.2.bad≠0):qK p=(eD,p.2.bad,p.2.at_):=M_ h
theorem jG {p} (h:p.2.bad=0):qK p=(p.1,0,p.2.at_):=K_ (by simpa using h)
theorem Gg {l k n} (h1:1≤n) (h5:n≤5) (h:iR l (lo n) (hi n) ⟨k,0⟩=none):uC n (aE l k)=-1:=by
 rw [Fh l k n h1 h5,h]
theorem Gh {l k op n} (h1:1≤n) (h5:n≤5) (h:iR l (lo n) (hi n) ⟨k,0⟩=some op):uC n (aE l k)=op∧0≤op:=by
 rw [Fh l k n h1 h5,h]
 have hn:n=1∨n=2∨n=3∨n=4∨n=5:=by omega
 have hlh:lo n≤hi n:=by rcases hn with rfl | rfl | rfl | rfl | rfl <;> decide
 have:=Rx h hlh
 have:=vG op n h1 h5 this.1 this.2.1
 exact ⟨rfl,by omega⟩
theorem Mm {l:List bQ} {first:Int} {below:St→Ex × St} {n:Nat} (h1:1≤n) (h5:n≤5) (h3:n≠3):∀(m:Nat) (e:Ex) (k:Int),
  Qq (fun k=>qK (below ⟨k,0⟩)) l first n m e 0 k=qK (nL l first (lo n) (hi n) below m e ⟨k,0⟩)
 | 0,e,k=>by rw [Qq];exact (jG (p:=(e,⟨k,0⟩)) rfl).symm
 | m+1,e,k=>by
  rw [Qq,K_ (by simp)]
  cases hp:iR l (lo n) (hi n) ⟨k,0⟩ with
  | none=>
   rw [Gg h1 h5 hp,M_ (by decide),zM hp]
   exact (jG (p:=(e,⟨k,0⟩)) rfl).symm
  | some op=>
   obtain ⟨ho,ho0⟩:=Gh h1 h5 hp
   rw [ho,K_ (by omega)]
   by_cases h64:64≤k - first
   ·rw [M_ h64,Nk hp h64]
    exact (dS (p:=(e,dL 2 ⟨k,0⟩)) (by simp [dL])).symm
   ·rw [K_ h64,Nj hp (by show k - first<64;omega)]
    simp only
    by_cases hb:(below ⟨k+1,0⟩).2.bad=0
    ·rw [jG hb]
     simp only
     rw [K_ (by simp),K_ (by omega),Mm h1 h5 h3 m,←Hw hb]
    ·rw [dS hb]
     simp only
     rw [M_ hb,Dy hb]
     exact (dS (p:=(eY op e (below ⟨k+1,0⟩).1,(below ⟨k+1,0⟩).2)) hb).symm
theorem Ue {l first un n} (h1:1≤n) (h5:n≤5) (at_) :
  Qq (fun k=>qK (tH l first un (n+1) ⟨k,0⟩)) l first n 66 (qK (tH l first un (n+1) ⟨at_,0⟩)).1 (qK (tH l first un (n+1) ⟨at_,0⟩)).2.1 (qK (tH l first un (n+1) ⟨at_,0⟩)).2.2=qK (tH l first un n ⟨at_,0⟩):=by
 by_cases hb:(tH l first un (n+1) ⟨at_,0⟩).2.bad=0
 ·rw [jG hb]
  by_cases h3:n=3
  ·subst h3
   simp only
   rw [Qq,K_ (by simp),La,tI]
   have hst:=Hw hb
   generalize hq:tH l first un (3+1) ⟨at_,0⟩=q at hb hst ⊢
   cases hp:iR l 9 14 ⟨q.2.at_,0⟩ with
   | none=>
    rw [show uC ((3:Nat):Int) (aE l q.2.at_)=-1 from Gg (n:=3) (by decide) (by decide) hp,M_ (by decide),hst,hp]
    simp only
    rw [jG hb]
   | some op=>
    obtain ⟨ho,ho0⟩:=Gh (n:=3) (by decide) (by decide) hp
    rw [ho,K_ (by omega),hst,hp]
    simp only
    by_cases h64:64≤q.2.at_ - first
    ·rw [M_ h64,oX (s:=⟨q.2.at_,0⟩) h64,M_ rfl]
     exact (dS (p:=(q.1,dL 2 ⟨q.2.at_,0⟩)) (by simp [dL])).symm
    ·rw [K_ h64,jA (s:=⟨q.2.at_,0⟩) (by show q.2.at_ - first<64;omega),K_ (show ¬(true=false) by decide)]
     simp only
     by_cases hb2:(tH l first un 4 ⟨q.2.at_+1,0⟩).2.bad=0
     ·rw [show qK (tH l first un (3+1) ⟨q.2.at_+1,0⟩)=_ from jG hb2]
      simp only
      rw [K_ (show ¬((0:Int)≠0) by decide),M_ (show ((3:Nat):Int)=3 from rfl)]
      exact (jG (p:=(eY op q.1 (tH l first un 4 ⟨q.2.at_+1,0⟩).1,(tH l first un 4 ⟨q.2.at_+1,0⟩).2)) hb2).symm
     ·rw [show qK (tH l first un (3+1) ⟨q.2.at_+1,0⟩)=_ from dS hb2]
      simp only
      rw [M_ hb2]
      exact (dS (p:=(eY op q.1 (tH l first un 4 ⟨q.2.at_+1,0⟩).1,(tH l first un 4 ⟨q.2.at_+1,0⟩).2)) hb2).symm
  ·simp only
   rw [Mm h1 h5 h3,Kz (n:=n) (by omega),iI,←Hw hb]
 ·rw [dS hb,Qq,M_ hb]
  by_cases h3:n=3
  ·subst h3
   rw [La,tI,Lc hb]
   exact (dS hb).symm
  ·rw [Kz (n:=n) (by omega),iI,Dy hb]
   exact (dS hb).symm
end Go.Proofs.YtgcfjkfipkfijaaGreatDoor
namespace Go.Proofs.YtgcfjkfipkfijaaGreatDoor
open Go Go.RowKit Go.Lib _root_.Go.Proofs.Tryz
variable {t : bQ}
theorem yG {a b:ByteArray} (hab:dK a b=false) (h:(t.kind == 4 && dK t.text a)=true):(t.kind == 4 && dK t.text b)=false:=by
 rw [a_] at h
 rw [bF.1 h.2,hab,Bool.and_false]
theorem qD {a:ByteArray} (h:(t.kind == 4 && dK t.text a)=true):t.kind=4:=by
 rw [a_,beq_iff_eq] at h
 exact h.1
theorem Uf {t op a} (hs:cZ op=a) (h:(t.kind == 4 && dK t.text a)=true):Hi op t:=by
 refine ⟨qD h,?_⟩
 rw [a_] at h
 exact bF.2 (hs.trans (bF.1 h.2).symm)
theorem Ug {t op a} (hs:cZ op=a) (h:Hi op t):(t.kind == 4 && dK t.text a)=true:=by
 rw [a_,beq_iff_eq]
 exact ⟨h.1,bF.2 ((bF.1 h.2).symm.trans hs)⟩
theorem Gi {l i} (k45:((aE l i).kind == 4 && dK (aE l i).text ⟨#[45]⟩)=false) (k33:((aE l i).kind == 4 && dK (aE l i).text ⟨#[33]⟩)=false):iR l 2 3 ⟨i,0⟩=none:=by
 unfold iR
 refine rZ _ _ (fun op h2 h3 hs=>?_)
 have:op=2∨op=3:=by
  have:((3 - 2+1:Int).toNat:Int)=2:=by decide
  omega
 rcases this with rfl | rfl
 ·rw [Ug (by decide) hs] at k45;cases k45
 ·rw [Ug (by decide) hs] at k33;cases k33
theorem Mn {l first i op un orr} (ho:op=2∨op=3) (h:Hi op (aE l i)) (hb:64≤i - first):qK (vU l first un orr ⟨i,0⟩)=(eD,2,i):=by
 unfold vU
 rw [Rr ho h]
 simp only
 rw [oX (s:=⟨i,0⟩) hb,M_ rfl]
 exact dS (p:=(eD,dL 2 ⟨i,0⟩)) (by simp [dL])
theorem rO {l first i un orr} (hp:iR l 2 3 ⟨i,0⟩=none) (hk:iJ (aE l i)=true∨(aE l i).kind=2∨(aE l i).kind=1) (hb:64≤i - first):qK (vU l first un orr ⟨i,0⟩)=(eD,2,i):=by
 unfold vU
 rw [hp]
 simp only
 rw [K_ (fun hc=>by
  rcases hc with hc | ⟨c1,c2,c3⟩
  ·exact hc rfl
  ·rcases hk with hk | hk | hk
   ·rw [hk] at c1;cases c1
   ·exact c2 hk
   ·exact c3 hk),oX (s:=⟨i,0⟩) hb,M_ rfl]
 exact dS (p:=(eD,dL 2 ⟨i,0⟩)) (by simp [dL])
theorem Ay {l first i un orr} (hp:iR l 2 3 ⟨i,0⟩=none) (ho:iJ (aE l i)=false) (k2:(aE l i).kind≠2) (k1:(aE l i).kind≠1):qK (vU l first un orr ⟨i,0⟩)=(eD,11,i):=by
 unfold vU
 rw [hp]
 simp only
 rw [M_ (.inr ⟨ho,k2,k1⟩)]
 exact dS (p:=(eD,dL 11 ⟨i,0⟩)) (by simp [dL])
theorem Xr (l A c first at_ un orr w) (hr:cN.Row [] w A l) (hlc:l.length≤c) (hf0:0≤first) (hf1:first≤1152921504606846976) (h1:first≤at_) (h3:at_≤first+64) (gu:fP first un) (go:fP first orr) (hU:at_ - first<64→∀W,cN.Row [] W A l→Calls prog 132 #[.slice A l.length c,.int .i64 first,.int .i64 (at_+1)] W (bR W.heap.size (qK (un ⟨at_+1,0⟩)) W)) (hO:at_ - first<64→∀W,cN.Row [] W A l→Calls prog 122 #[.slice A l.length c,.int .i64 first,.int .i64 (at_+1),.int .i64 1] W (bR W.heap.size (qK (orr ⟨at_+1,0⟩)) W)) :
  Calls prog 132 #[.slice A l.length c,.int .i64 first,.int .i64 at_] w (bR w.heap.size (qK (vU l first un orr ⟨at_,0⟩)) w):=by
 obtain ⟨t,ht⟩:=nm_ (aE l at_)
 by_cases c45:(t.kind == 4 && dK t.text ⟨#[45]⟩)=true
 ·have k33:=yG (b:=⟨#[33]⟩) (by decide) c45
  have k40:=yG (b:=⟨#[40]⟩) (by decide) c45
  have hk:=qD c45
  have hs:Hi 2 (aE l at_):=by rw [ht];exact Uf (by decide) c45
  by_cases h64:64≤at_ - first
  ·rw [Mn (.inl rfl) hs h64]
   exact jW l A c first at_ t w hr hlc ht hf0 hf1 h1 h3 _ _ _ c45 k33 k40 _ (.inr (.inl ⟨rfl,rfl,rfl,hk,h64,rfl⟩))
  ·have h64':at_ - first<64:=by omega
   have hg:=gu ⟨at_+1,0⟩ (by show at_+1≤first+64;omega)
   simp only at hg
   have hu:=hU h64'
   rw [Ru (.inl rfl) hs h64']
   by_cases hb:(un ⟨at_+1,0⟩).2.bad=0
   ·rw [jG hb] at hu
    rw [jG (p:=(fR 2 (un ⟨at_+1,0⟩).1,(un ⟨at_+1,0⟩).2)) hb]
    exact jX l A c first at_ t w hr hlc ht hf0 hf1 h1 h3 _ _ _ _ _ _ (k_ (by omega:first≤at_+1) hg.1) hg.2 _ rfl c45 k33 k40 _ (.inr (.inr (.inr (.inr (.inr (.inl ⟨rfl,rfl,rfl,hk,h64',hu,rfl,rfl⟩))))))
   ·rw [dS hb] at hu
    rw [dS (p:=(fR 2 (un ⟨at_+1,0⟩).1,(un ⟨at_+1,0⟩).2)) hb]
    exact jX l A c first at_ t w hr hlc ht hf0 hf1 h1 h3 _ _ _ _ _ _ (k_ (by omega:first≤at_+1) hg.1) hg.2 _ rfl c45 k33 k40 _ (.inr (.inr (.inr (.inr (.inl ⟨rfl,rfl,rfl,hk,h64',hu,hb,rfl⟩)))))
 have k45:=E_ c45
 by_cases c33:(t.kind == 4 && dK t.text ⟨#[33]⟩)=true
 ·have k40:=yG (b:=⟨#[40]⟩) (by decide) c33
  have hk:=qD c33
  have hs:Hi 3 (aE l at_):=by rw [ht];exact Uf (by decide) c33
  by_cases h64:64≤at_ - first
  ·rw [Mn (.inr rfl) hs h64]
   exact jW l A c first at_ t w hr hlc ht hf0 hf1 h1 h3 _ _ _ k45 c33 k40 _ (.inr (.inr (.inl ⟨rfl,rfl,rfl,hk,h64,rfl⟩)))
  ·have h64':at_ - first<64:=by omega
   have hg:=gu ⟨at_+1,0⟩ (by show at_+1≤first+64;omega)
   simp only at hg
   have hu:=hU h64'
   rw [Ru (.inr rfl) hs h64']
   by_cases hb:(un ⟨at_+1,0⟩).2.bad=0
   ·rw [jG hb] at hu
    rw [jG (p:=(fR 3 (un ⟨at_+1,0⟩).1,(un ⟨at_+1,0⟩).2)) hb]
    exact jX l A c first at_ t w hr hlc ht hf0 hf1 h1 h3 _ _ _ _ _ _ (k_ (by omega:first≤at_+1) hg.1) hg.2 _ rfl k45 c33 k40 _ (.inr (.inr (.inr (.inr (.inr (.inr (.inr (⟨rfl,rfl,rfl,hk,h64',hu,rfl,rfl⟩))))))))
   ·rw [dS hb] at hu
    rw [dS (p:=(fR 3 (un ⟨at_+1,0⟩).1,(un ⟨at_+1,0⟩).2)) hb]
    exact jX l A c first at_ t w hr hlc ht hf0 hf1 h1 h3 _ _ _ _ _ _ (k_ (by omega:first≤at_+1) hg.1) hg.2 _ rfl k45 c33 k40 _ (.inr (.inr (.inr (.inr (.inr (.inr (.inl ⟨rfl,rfl,rfl,hk,h64',hu,hb,rfl⟩)))))))
 have k33:=E_ c33
 have hnone:iR l 2 3 ⟨at_,0⟩=none:=Gi (by rw [ht];exact k45) (by rw [ht];exact k33)
 by_cases c40:(t.kind == 4 && dK t.text ⟨#[40]⟩)=true
 ·have hk:=qD c40
  have hop:iJ (aE l at_)=true:=by rw [ht];exact c40
  by_cases h64:64≤at_ - first
  ·rw [rO hnone (.inl hop) h64]
   exact jW l A c first at_ t w hr hlc ht hf0 hf1 h1 h3 _ _ _ k45 k33 c40 _ (.inr (.inr (.inr (.inl ⟨rfl,rfl,rfl,hk,h64,rfl⟩))))
  ·have h64':at_ - first<64:=by omega
   have hg:=go ⟨at_+1,0⟩ (by show at_+1≤first+64;omega)
   simp only at hg
   have hu:=hO h64'
   rw [Rv hop h64']
   by_cases hb:(orr ⟨at_+1,0⟩).2.bad=0
   ·rw [jG hb] at hu
    by_cases hsh:qR (aE l (orr ⟨at_+1,0⟩).2.at_)=true
    ·rw [K_ (by rw [hsh];simp),M_ hb]
     by_cases hl:64≤(orr ⟨at_+1,0⟩).2.at_ - first
     ·have he:qK ((orr ⟨at_+1,0⟩).1,(aT first (orr ⟨at_+1,0⟩).2).2)=(eD,2,(orr ⟨at_+1,0⟩).2.at_):=by
       rw [oX hl]
       simp only [dL,M_ hb]
       exact dS (p:=((orr ⟨at_+1,0⟩).1,⟨(orr ⟨at_+1,0⟩).2.at_,2⟩)) (by show (2:Int)≠0;decide)
      rw [he]
      exact jX l A c first at_ t w hr hlc ht hf0 hf1 h1 h3 _ _ _ _ _ _ (k_ (by omega:first≤at_+1) hg.1) hg.2 _ rfl k45 k33 c40 _ (.inr (.inr (.inl ⟨rfl,rfl,rfl,hk,h64',hu,rfl,hsh,hl,rfl⟩)))
     ·have he:qK ((orr ⟨at_+1,0⟩).1,(aT first (orr ⟨at_+1,0⟩).2).2)=((orr ⟨at_+1,0⟩).1,0,(orr ⟨at_+1,0⟩).2.at_+1):=by
       rw [jA (by omega)]
       exact jG (p:=((orr ⟨at_+1,0⟩).1,⟨(orr ⟨at_+1,0⟩).2.at_+1,(orr ⟨at_+1,0⟩).2.bad⟩)) hb
      rw [he]
      exact jX l A c first at_ t w hr hlc ht hf0 hf1 h1 h3 _ _ _ _ _ _ (k_ (by omega:first≤at_+1) hg.1) hg.2 _ rfl k45 k33 c40 _ (.inr (.inr (.inr (.inl ⟨rfl,rfl,rfl,hk,h64',hu,rfl,hsh,(by omega),rfl⟩))))
    ·have hsf:=E_ hsh
     rw [M_ ⟨hb,hsf⟩]
     have he:qK (eD,dL 11 (orr ⟨at_+1,0⟩).2)=(eD,11,(orr ⟨at_+1,0⟩).2.at_):=by
      simp only [dL,M_ hb]
      exact dS (p:=(eD,⟨(orr ⟨at_+1,0⟩).2.at_,11⟩)) (by show (11:Int)≠0;decide)
     rw [he]
     exact jX l A c first at_ t w hr hlc ht hf0 hf1 h1 h3 _ _ _ _ _ _ (k_ (by omega:first≤at_+1) hg.1) hg.2 _ rfl k45 k33 c40 _ (.inr (.inl ⟨rfl,rfl,rfl,hk,h64',hu,rfl,hsf,rfl⟩))
   ·rw [dS hb] at hu
    rw [K_ (fun h=>hb h.1),K_ hb,dS hb]
    exact jX l A c first at_ t w hr hlc ht hf0 hf1 h1 h3 _ _ _ _ _ _ (k_ (by omega:first≤at_+1) hg.1) hg.2 _ rfl k45 k33 c40 _ (.inl ⟨rfl,rfl,rfl,hk,h64',hu,hb,rfl⟩)
 have k40:=E_ c40
 have hno:iJ (aE l at_)=false:=by rw [ht];exact k40
 by_cases k2:t.kind=2
 ·by_cases h64:64≤at_ - first
  ·rw [rO hnone (.inr (.inl (by rw [ht];exact k2))) h64]
   exact jW l A c first at_ t w hr hlc ht hf0 hf1 h1 h3 _ _ _ k45 k33 k40 _ (.inr (.inr (.inr (.inr (.inl ⟨rfl,rfl,rfl,k2,h64,rfl⟩)))))
  ·rw [Wa (by rw [ht];exact k2) (by omega),ht]
   exact jW l A c first at_ t w hr hlc ht hf0 hf1 h1 h3 _ _ _ k45 k33 k40 _ (.inr (.inr (.inr (.inr (.inr (.inr (.inl ⟨rfl,rfl,rfl,k2,(by omega),rfl⟩)))))))
 by_cases k1:t.kind=1
 ·by_cases h64:64≤at_ - first
  ·rw [rO hnone (.inr (.inr (by rw [ht];exact k1))) h64]
   exact jW l A c first at_ t w hr hlc ht hf0 hf1 h1 h3 _ _ _ k45 k33 k40 _ (.inr (.inr (.inr (.inr (.inr (.inl ⟨rfl,rfl,rfl,k1,h64,rfl⟩))))))
  ·rw [Rt (by rw [ht];exact k1) (by omega),ht]
   exact jW l A c first at_ t w hr hlc ht hf0 hf1 h1 h3 _ _ _ k45 k33 k40 _ (.inr (.inr (.inr (.inr (.inr (.inr (.inr (⟨rfl,rfl,rfl,k1,(by omega),rfl⟩))))))))
 rw [Ay hnone hno (by rw [ht];exact k2) (by rw [ht];exact k1)]
 exact jW l A c first at_ t w hr hlc ht hf0 hf1 h1 h3 _ _ _ k45 k33 k40 _ (.inl ⟨rfl,rfl,rfl,k2,k1,rfl⟩)
theorem Pw (l:List bQ) (A:Option Addr) (c:Nat) (first at_:Int) (w:World) (p:Ex × Int × Int)
  (hu:∀W,Below w.heap.size w W→Calls prog 132 #[.slice A l.length c,.int .i64 first,.int .i64 at_] W (bR W.heap.size p W)) :
  Calls prog 122 #[.slice A l.length c,.int .i64 first,.int .i64 at_,.int .i64 6] w (bR w.heap.size p w):=by
 obtain ⟨e,f,k⟩:=p
 have HU:=hid hu
 clear hu
 go_enter func122,ntmps122
 go_wp2_with fail
 obtain ⟨w0,hw0,hb0,hz0⟩:=alo_ w (.cells #[.int .i64 0,.int .i64 0,.string ⟨#[]⟩,.slice none 0 0] 41 (0,0))
 obtain ⟨P,hP⟩:=nm_ w.heap.size
 rw [hw0,hP]
 rw [hP] at hz0
 have HPW:=hid hP
 have HB0:=hid hb0
 have HP0:=hid hz0
 clear hb0 hz0 hw0 hP
 refine (HU.out w0 HB0.out).mono ?_
 rintro r w1 ⟨B1,d1,rfl,hx1,hb1⟩
 simp only at hx1
 have hlt:=aC HP0.out
 have HX1:=hid (hx1.more (Q:=fun q=>q≤P) (fun q hq=>.inl (by show q<w0.heap.size;omega)))
 have HB1:=tm_ HB0 hb1
 have HP1:=hid ((hb1.block P hlt).trans HP0.out)
 clear hx1 hb1 hlt
 obtain ⟨⟨z0,z1,z2,z3⟩,g0,g1,g2,g3⟩:=aK HP1.out
 go_wp2
 refine L_ (v:=.tuple #[.agg #[.int .i64 e.op,.int .i64 e.n,.string e.name,.slice B1 e.kids.length d1],.int .i64 f,.int .i64 k]) (by simp [results,results122,go_sem, *]) rfl ?_
 refine ⟨B1,d1,rfl,(HX1.out.keep (bS w1 P _ _ _ _) (fun q hq=>by simp at hq;subst hq;exact H_ _)).more (fun q hq=>.inl (by have:=HPW.out;show q≤P;omega)),?_⟩
 exact aH HB1.out (by rw [HPW.out];exact H_ _) _ _ _ _
end Go.Proofs.YtgcfjkfipkfijaaGreatDoor
namespace Go.Proofs.YtgcfjkfipkfijaaGreatDoor
open Go Go.RowKit Go.Lib _root_.Go.Proofs.Tryz
theorem Zj (p):(qK p).2.2=p.2.at_:=by unfold qK;split <;> rfl
theorem Px {l first un} (h:fP first un) (n):fP first (tH l first un n):=by
 match n with
 | 0=>exact h
 | 1=>exact nP h
 | 2=>exact bN (lJ (bN (bN h)))
 | 3=>exact lJ (bN (bN h))
 | 4=>exact bN (bN h)
 | 5=>exact bN h
 | n+6=>exact h
theorem pI (l A c first b0 un) (hlc:l.length≤c) (hf0:0≤first) (hf1:first≤1152921504606846976) (hb0:first≤b0) (gu:fP first un) (hU:∀(k:Int) (W:World),cN.Row [] W A l→b0≤k→k≤first+64→Calls prog 132 #[.slice A l.length c,.int .i64 first,.int .i64 k] W (bR W.heap.size (qK (un ⟨k,0⟩)) W)) :
  ∀(j n:Nat),n+j=6→1≤n→∀(k:Int) (W:World),cN.Row [] W A l→b0≤k→k≤first+64 →
   Calls prog 122 #[.slice A l.length c,.int .i64 first,.int .i64 k,.int .i64 (n:Int)] W (bR W.heap.size (qK (tH l first un n ⟨k,0⟩)) W)
 | 0,n,h,h1,k,W,hr,k1,k2=>by
  obtain rfl:n=6:=by omega
  exact Pw l A c first k W _ (fun W' hb=>hU k W' (hr.keep (Same.of_below hb)) k1 k2)
 | j+1,n,h,h1,k,W,hr,k1,k2=>by
  have ih:=pI l A c first b0 un hlc hf0 hf1 hb0 gu hU j (n+1) (by omega) (by omega)
  have hL:=Px (l:=l) gu (n+1)
  have:=Jw l A c first k n W (fun k=>qK (tH l first un (n+1) ⟨k,0⟩)) hr hlc hf0 hf1 b0 hb0 k1 k2 (by omega) (by omega)
   (fun k q1 q2=>by rw [Zj];exact hL ⟨k,0⟩ q2) (fun k W' hr' q1 q2 _=>ih k W' hr' q1 q2)
  rw [Ue h1 (by omega) k] at this
  exact this
theorem rP (l A c first) (hlc:l.length≤c) (hf0:0≤first) (hf1:first≤1152921504606846976) :
  ∀(f:Nat) (at_:Int) (W:World),cN.Row [] W A l→first≤at_→at_≤first+64→65≤at_ - first+f →
   Calls prog 132 #[.slice A l.length c,.int .i64 first,.int .i64 at_] W (bR W.heap.size (qK (vD l first f ⟨at_,0⟩)) W)
 | 0,at_,W,hr,h1,h3,hf=>absurd hf (by omega)
 | f+1,at_,W,hr,h1,h3,hf=>by
  rw [oU]
  refine Xr l A c first at_ _ _ W hr hlc hf0 hf1 h1 h3 (iA l first f) (nP (iA l first f)) (fun h W' hr'=>rP l A c first hlc hf0 hf1 f (at_+1) W' hr' (by omega) (by omega) (by omega)) (fun h W' hr'=>?_)
  exact pI l A c first (at_+1) (vD l first f) hlc hf0 hf1 (by omega) (iA l first f) (fun k W2 hr2 k1 k2=>rP l A c first hlc hf0 hf1 f k W2 hr2 (by omega) k2 (by omega)) 5 1 rfl (by omega) (at_+1) W' hr' (m_ _) (by omega)
theorem Xs (l first un):tH l first un 1=uW l first un:=rfl
theorem Az (l a):gZ l a=qK (tH l a (vD l a 66) 1 ⟨a,0⟩):=by
 rw [Xs,gZ]
 generalize uW l a (vD l a 66) ⟨a,0⟩=p
 rfl
theorem Ba {l a} (h:a<0∨(l.length:Int)≤a):gZ l a=(eD,11,a):=by
 have ht:aE l a=cB:=by unfold aE;rw [M_ h]
 have h6:qK (tH l a (vD l a 66) 6 ⟨a,0⟩)=(eD,11,a):=by
  show qK (vD l a (65+1) ⟨a,0⟩)=_
  rw [oU]
  exact Ay (Br (by rw [show (⟨a,0⟩:St).at_=a from rfl,ht];decide)) (by rw [ht];decide) (by rw [ht];decide) (by rw [ht];decide)
 have step:∀n,1≤n→n≤5→qK (tH l a (vD l a 66) (n+1) ⟨a,0⟩)=(eD,11,a)→qK (tH l a (vD l a 66) n ⟨a,0⟩)=(eD,11,a):=fun n h1 h5 h=>by
  rw [←Ue h1 h5 a,h,Qq,M_ (show (11:Int)≠0 by decide)]
 rw [Az]
 exact step 1 (by omega) (by omega) (step 2 (by omega) (by omega) (step 3 (by omega) (by omega) (step 4 (by omega) (by omega) (step 5 (by omega) (by omega) h6))))
theorem Py (l A c a w) (hr:cN.Row [] w A l) (hlc:l.length≤c) (hl60:(l.length:Int)≤1152921504606846976) :
  Calls prog 110 #[.slice A l.length c,.int .i64 a] w (bR w.heap.size (gZ l a) w):=by
 by_cases ha:a<0
 ·rw [Ba (.inl ha)]
  go_enter func110,ntmps110
  go_wp2
  refine L_ (v:=.tuple #[.agg #[.int .i64 0,.int .i64 0,.string ⟨#[]⟩,.slice none 0 0],.int .i64 11,.int .i64 a]) (by simp [results,results110,go_sem, *]) rfl ?_
  exact ⟨none,0,rfl,cR.leaf rfl,(J_ _ _).alloc le_ _⟩
 have ha':0≤a:=by omega
 by_cases hl:(l.length:Int)≤a
 ·rw [Ba (.inr hl)]
  go_enter func110,ntmps110
  go_wp2
  refine L_ (v:=.tuple #[.agg #[.int .i64 0,.int .i64 0,.string ⟨#[]⟩,.slice none 0 0],.int .i64 11,.int .i64 a]) (by simp [results,results110,go_sem, *]) rfl ?_
  exact ⟨none,0,rfl,cR.leaf rfl,(J_ _ _).alloc le_ _⟩
 have hl':a<(l.length:Int):=by omega
 have hR:∀W,cN.Row [] W A l→Calls prog 122 #[.slice A l.length c,.int .i64 a,.int .i64 a,.int .i64 1] W (bR W.heap.size (qK (tH l a (vD l a 66) 1 ⟨a,0⟩)) W):=fun W (h:cN.Row [] W A l)=>pI l A c a a (vD l a 66) hlc ha' (by omega) (m_ _) (iA l a 66) (fun k W2 hr2 k1 k2=>rP l A c a hlc ha' (by omega) 66 k W2 hr2 k1 k2 (by omega)) 5 1 rfl (by omega) a W h (m_ _) (by omega)
 rw [Az]
 obtain ⟨⟨e,f,k⟩,hp⟩:∃p,qK (tH l a (vD l a 66) 1 ⟨a,0⟩)=p:=⟨_,rfl⟩
 rw [hp] at hR ⊢
 have RD:=hid hR
 have HR:=hid hr
 clear hR hr hp ha hl
 go_enter func110,ntmps110
 go_wp2_with fail
 obtain ⟨w0,hw0,hb0,hz0⟩:=alo_ w (.cells #[.int .i64 0,.int .i64 0,.string ⟨#[]⟩,.slice none 0 0] 41 (0,0))
 obtain ⟨P,hP⟩:=nm_ w.heap.size
 rw [hw0,hP]
 rw [hP] at hz0
 have HPW:=hid hP
 have HB0:=hid hb0
 have HP0:=hid hz0
 clear hb0 hz0 hw0 hP
 refine (RD.out w0 (HR.out.keep (Same.of_below HB0.out))).mono ?_
 rintro r w1 ⟨B1,d1,rfl,hx1,hb1⟩
 simp only at hx1
 have hlt:=aC HP0.out
 have HX1:=hid (hx1.more (Q:=fun q=>q≤P) (fun q hq=>.inl (by show q<w0.heap.size;omega)))
 have HB1:=tm_ HB0 hb1
 have HP1:=hid ((hb1.block P hlt).trans HP0.out)
 clear hx1 hb1 hlt
 obtain ⟨⟨z0,z1,z2,z3⟩,g0,g1,g2,g3⟩:=aK HP1.out
 go_wp2
 refine L_ (v:=.tuple #[.agg #[.int .i64 e.op,.int .i64 e.n,.string e.name,.slice B1 e.kids.length d1],.int .i64 f,.int .i64 k]) (by simp [results,results110,go_sem, *]) rfl ?_
 refine ⟨B1,d1,rfl,(HX1.out.keep (bS w1 P _ _ _ _) (fun q hq=>by simp at hq;subst hq;exact H_ _)).more (fun q hq=>.inl (by have:=HPW.out;show q≤P;omega)),?_⟩
 exact aH HB1.out (by rw [HPW.out];exact H_ _) _ _ _ _
end Go.Proofs.YtgcfjkfipkfijaaGreatDoor
