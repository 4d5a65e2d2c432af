/- Part 14 of the proof of rtrees_card; no conditions. -/
import Derived.Test.YtgcfjkfipkfijaaGreatDoorTr01
import Derived.Test.YtgcfjkfipkfijaaGreatDoorTr08
namespace Go.Proofs.YtgcfjkfipkfijaaGreatDoor
open Go
def qN (l:List bQ):Prop:=0<l.length∧(aE l ((l.length:Int) - 1)).kind=0
def Vi (l:List bQ) (s:St):Prop:=0≤s.at_∧s.at_<l.length
def oZ (l:List bQ) (P:St→Ex × St):Prop:=∀s,Vi l s→Vi l (P s).2
theorem sG {l first s} (hl:qN l) (h:Vi l s) (hk:(aE l s.at_).kind≠0):Vi l (aT first s).2:=by
 have hp:=jO first s
 have hne:s.at_≠(l.length:Int) - 1:=fun e=>hk (by rw [e];exact hl.2)
 unfold Vi at *
 cases hb:(aT first s).1 with
 | true=>have:=hp.1 hb;omega
 | false=>have:=hp.2 hb;omega
theorem wL {l a b s x} (h:iR l a b s=some x):(aE l s.at_).kind≠0:=by
 rw [(Dm _ _ _ _ _ h).1];decide
theorem Lm {l e s} (h:Vi l s):Vi l (dL e s):=by unfold Vi at *;rw [oV];exact h
theorem wM {l first a b below} (hl:qN l) (h:oZ l below):∀(n:Nat) (e:Ex) (s:St),Vi l s→Vi l (nL l first a b below n e s).2
 | 0,e,s,h1=>h1
 | n+1,e,s,h1=>by
  rw [nL]
  cases hi:iR l a b s with
  | none=>exact h1
  | some op=>
   have hp:=sG (first:=first) hl h1 (wL hi)
   simp only
   split
   ·exact hp
   ·exact wM hl h n _ _ (h _ hp)
theorem nU {l first a b below} (hl:qN l) (h:oZ l below):oZ l (iI l first a b below):=fun s h1=>wM hl h 66 _ _ (h s h1)
theorem Ig {l first sum} (hl:qN l) (h:oZ l sum):oZ l (tI l first sum):=fun s h1=>by
 have h2:=h s h1
 unfold tI
 cases hi:iR l 9 14 (sum s).2 with
 | none=>exact h2
 | some op=>
  have hp:=sG (first:=first) hl h2 (wL hi)
  simp only
  split
  ·exact hp
  ·exact h _ hp
theorem wN {l first un} (hl:qN l) (h:oZ l un):oZ l (uW l first un):=
 nU hl (nU hl (Ig hl (nU hl (nU hl h))))
theorem Nu {l first un orr} (hl:qN l) (h1:oZ l un) (h2:oZ l orr):oZ l (vU l first un orr):=fun s hs=>by
 unfold vU
 cases hi:iR l 2 3 s with
 | some op=>
  have hp:=sG (first:=first) hl hs (wL hi)
  simp only
  split
  ·exact hp
  ·exact h1 _ hp
 | none=>
  simp only
  split
  ·exact Lm hs
  ·rename_i hc
   have hk:(aE l s.at_).kind≠0:=by
    intro e
    refine hc (.inr ⟨?_,by rw [e];decide,by rw [e];decide⟩)
    simp [iJ,e]
   have hp:=sG (first:=first) hl hs hk
   split
   ·exact hp
   ·split
    ·exact hp
    ·split
     ·exact hp
     ·have ho:=h2 _ hp
      split
      ·exact Lm ho
      ·rename_i hd
       split
       ·rename_i hb
        refine sG hl ho ?_
        intro e
        refine hd ⟨hb,?_⟩
        simp [qR,e]
       ·exact ho
theorem tQ {l} (first) (hl:qN l):∀f,oZ l (vD l first f)
 | 0=>fun _ h=>h
 | f+1=>fun s h=>by rw [oU];exact Nu hl (tQ first hl f) (wN hl (tQ first hl f)) s h
theorem Se {l} (a:Int) (hl:qN l) (h:0≤a∧a<l.length):0≤(gZ l a).2.2∧(gZ l a).2.2<l.length:=by
 have h1:=wN (first:=a) hl (tQ a hl 66) ⟨a,0⟩ h
 unfold gZ
 simp only
 split
 ·exact h1
 ·exact h1
theorem Ih (out t):aE (out++[t]) (((out++[t]).length:Int) - 1)=t:=by
 unfold aE
 have e:((out++[t]).length:Int) - 1=(out.length:Int):=by simp
 rw [K_ (by simp;omega),e,Int.toNat_natCast]
 simp
theorem iK {l} (a):∀f,(oS f l a).1.length≤l.length:=by
 intro f
 induction f generalizing l a with
 | zero=>exact H_ _
 | succ f ih=>
  by_cases h:kJ l=0
  ·rw [iV h];exact H_ _
  ·rw [iU h]
   exact d_ (ih _) (by simp)
theorem wO:∀(f:Nat) (l:List UInt8) (a:Int) (out:List bQ),l.length<f→(gJ f l a out).2.1=0→qN (gJ f l a out).1
 | 0,_,_,_,h,_=>by omega
 | f+1,l,a,out,h,he=>by
  rw [gJ] at he ⊢
  by_cases hl:l=[]
  ·rw [M_ hl]
   exact ⟨by simp,by rw [Ih]⟩
  ·rw [K_ hl] at he ⊢
   simp only at he ⊢
   by_cases h2:(if out.length=2000 then (2:Int) else (eX l).2.2)=0
   ·rw [K_ (by simpa using h2)] at he ⊢
    have h3:(eX l).2.2=0:=by
     by_cases ho:out.length=2000
     ·rw [M_ ho] at h2;omega
     ·rw [K_ ho] at h2;exact h2
    have h4:=Ku hl h3
    refine wO f _ _ _ ?_ he
    refine Nat.lt_of_le_of_lt (iK _ _) ?_
    rw [Q_]
    omega
   ·rw [M_ h2] at he
    exact absurd he h2
theorem Ii (s) (h:(cI s).2.1=0):qN (cI s).1:=by
 unfold cI at h ⊢
 split at h
 ·simp at h
 ·rename_i h1
  rw [K_ h1]
  split at h
  ·simp at h
  ·rename_i h2
   rw [K_ h2]
   refine wO _ _ _ _ ?_ h
   refine Nat.lt_of_le_of_lt (iK _ _) ?_
   have:=aJ s
   omega
end Go.Proofs.YtgcfjkfipkfijaaGreatDoor
