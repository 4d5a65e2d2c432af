/- Part 6 of the proof of rtexts_card; no conditions. -/
import Derived.Test.YtgcfjkfipkfijaaGreatDoorTx01
import Derived.Test.YtgcfjkfipkfijaaGreatDoorTx03
import Derived.Test.YtgcfjkfipkfijaaGreatDoorTx05
import Derived.Laws.IdiomStrings
import Derived.Deep.LoopGhost
namespace Go.Proofs.YtgcfjkfipkfijaaGreatDoor
open Go Go.RowKit Go.Lib
structure Prm where
 name : ByteArray
 n : Int
 scaled : Bool
structure Ar where
 name : ByteArray
 e : Ex
structure Nd where
 kind : Int
 kids : List Int
 units : List ByteArray
 name : ByteArray
 args : List Ar
 e : Ex
structure Rec where
 name : ByteArray
 params : List Prm
 nodes : List Nd
def zRec : Rec := ⟨⟨#[]⟩, [], []⟩
inductive Pc where
 | row (kind : Int) (units : List ByteArray) (kids : List Pc)
 | choice (e : Ex) (a b : List Pc)
 | step (name : ByteArray) (args : List Ar)
def low (c : UInt8) : UInt8 := if 65 ≤ c ∧ c ≤ 90 then c + 32 else c
def foldP (s : ByteArray) : ByteArray := ⟨(s.data.toList.map low).toArray⟩
def wRecipe : ByteArray := ⟨#[114, 101, 99, 105, 112, 101]⟩
def wParam : ByteArray := ⟨#[112, 97, 114, 97, 109]⟩
def wScaled : ByteArray := ⟨#[115, 99, 97, 108, 101, 100]⟩
def wPar : ByteArray := ⟨#[112, 97, 114]⟩
def wSeq : ByteArray := ⟨#[115, 101, 113]⟩
def wUnit : ByteArray := ⟨#[117, 110, 105, 116]⟩
def wIf : ByteArray := ⟨#[105, 102]⟩
def wElse : ByteArray := ⟨#[101, 108, 115, 101]⟩
def wPhase : ByteArray := ⟨#[112, 104, 97, 115, 101]⟩
def keyWords : List ByteArray := [wRecipe, wParam, wScaled, wPar, wSeq, wUnit, wIf, wElse, wPhase]
def inB (x : ByteArray) (l : List ByteArray) : Bool := l.any (fun y => seq y x)
def keyP (t : Tok) : ByteArray := if t.kind = 1 ∧ inB (foldP t.text) keyWords = true then foldP t.text else ⟨#[]⟩
structure RS where
 at_ : Int
 bad : Int
 nodes : Int
def rFail (e : Int) (s : RS) : RS := if s.bad = 0 then { s with bad := e } else s
def rPass (s : RS) : RS := { s with at_ := s.at_ + 1 }
def rIsKey (l : List Tok) (w : ByteArray) (s : RS) : Bool := s.bad == 0 && seq (keyP (tokAt l s.at_)) w
def rIsSign (l : List Tok) (w : ByteArray) (s : RS) : Bool := s.bad == 0 && ((tokAt l s.at_).kind == 4 && seq (tokAt l s.at_).text w)
def rTakes (l : List Tok) (w : ByteArray) (s : RS) : Bool × RS := if (rIsKey l w s || rIsSign l w s) = true then (true, rPass s) else (false, s)
def rMust (l : List Tok) (w : ByteArray) (s : RS) : RS := if (rTakes l w s).1 = true then (rTakes l w s).2 else rFail 11 (rTakes l w s).2
def rNamed (l : List Tok) (s : RS) : Bool := (tokAt l s.at_).kind == 1 && (keyP (tokAt l s.at_)).size == 0
def rName (l : List Tok) (had : List ByteArray) (s : RS) : ByteArray × RS :=
 if s.bad ≠ 0 then (⟨#[]⟩, s)
 else if rNamed l s = false then (⟨#[]⟩, rFail 11 s)
 else if inB (tokAt l s.at_).text had = true then (⟨#[]⟩, rFail 5 s)
 else ((tokAt l s.at_).text, rPass s)
def rMost (l : List Tok) (n most : Int) (s : RS) : RS := if n = most ∧ rNamed l s = true then rFail 2 s else s
def rExpr (l : List Tok) (s : RS) : Ex × RS := if s.bad ≠ 0 then (zEx, s) else ((takeP l s.at_).1, ⟨(takeP l s.at_).2.2, (takeP l s.at_).2.1, s.nodes⟩)
def prmN (l : List Tok) (minus : Bool) (s : RS) : Int × RS :=
 let d := if s.bad = 0 ∧ (tokAt l s.at_).kind ≠ 2 then rFail 11 s else s
 let e := if d.bad = 0 then ((tokAt l d.at_).n, rPass d) else (0, d)
 (if minus = true then wrap64 (-e.1) else e.1, e.2)
def prmP (l : List Tok) (had : List ByteArray) (s : RS) : Prm × RS :=
 let a := rName l had s
 let c := rTakes l ⟨#[45]⟩ (rMust l ⟨#[58, 61]⟩ a.2)
 let e := prmN l c.1 c.2
 let f := rTakes l wScaled e.2
 (⟨a.1, e.1, f.1⟩, rMust l ⟨#[59]⟩ f.2)
def prmF (l : List Tok) : Nat → List Prm → RS → List Prm × RS
 | 0, ps, s => (ps, s)
 | f + 1, ps, s =>
  if rIsKey l wParam s = true then
   if ps.length = 4 then ([], rFail 2 s)
   else prmF l f (ps ++ [(prmP l (ps.map (·.name)) (rPass s)).1]) (prmP l (ps.map (·.name)) (rPass s)).2
  else (ps, s)
def rBegin (n : Int) (s : RS) : RS := if 24 < s.nodes + n then rFail 2 { s with nodes := s.nodes + n } else { s with nodes := s.nodes + n }
def unitF (l : List Tok) : Nat → List ByteArray → RS → List ByteArray × RS
 | 0, us, s => (us, s)
 | f + 1, us, s =>
  if (rTakes l ⟨#[44]⟩ s).1 = true then
   let t := rName l us (rMost l us.length 5 (rTakes l ⟨#[44]⟩ s).2)
   unitF l f (us ++ [t.1]) t.2
  else (us, (rTakes l ⟨#[44]⟩ s).2)
def argP (l : List Tok) (had : List ByteArray) (s : RS) : Ar × RS :=
 let a := rName l had (rMost l had.length 4 s)
 let b := rExpr l (rMust l ⟨#[61]⟩ a.2)
 (⟨a.1, b.1⟩, b.2)
def argF (l : List Tok) : Nat → Bool → List Ar → RS → List Ar × RS
 | 0, _, al, s => (al, s)
 | f + 1, more, al, s =>
  if more = true then
   let a := argP l (al.map (·.name)) s
   let c := rTakes l ⟨#[44]⟩ a.2
   argF l f c.1 (al ++ [a.1]) c.2
  else (al, s)
def stepP (l : List Tok) (s : RS) : Pc × RS :=
 let a := rName l [] s
 let b := rMust l ⟨#[40]⟩ a.2
 let c := argF l 8 (b.bad == 0 && !rIsSign l ⟨#[41]⟩ b) [] b
 (.step a.1 c.1, rMust l ⟨#[59]⟩ (rMust l ⟨#[41]⟩ c.2))
def partsF (l : List Tok) (nd : RS → Pc × RS) : Nat → List Pc → RS → List Pc × RS
 | 0, ps, s => (ps, s)
 | f + 1, ps, s =>
  if s.bad = 0 ∧ rIsSign l ⟨#[125]⟩ s = false then partsF l nd f (ps ++ [(nd s).1]) (nd s).2
  else (ps, s)
def blockP (l : List Tok) (nd : RS → Pc × RS) (s : RS) : List Pc × RS :=
 let b := partsF l nd 30 [] (rMust l ⟨#[123]⟩ s)
 (b.1, rMust l ⟨#[125]⟩ b.2)
def nodeS (l : List Tok) (blk : RS → List Pc × RS) (w : ByteArray) (s : RS) : Pc × RS :=
 if seq w wSeq = true ∨ seq w wPar = true then
  let b := blk (rTakes l w (rBegin 1 s)).2
  (.row (if seq w wPar = true then 1 else 0) [] b.1, b.2)
 else if seq w wUnit = true then
  let a := rName l [] (rTakes l w (rBegin 1 s)).2
  let u := unitF l 8 [a.1] a.2
  let b := blk u.2
  (.row 2 u.1 b.1, b.2)
 else if seq w wIf = true then
  let e := rExpr l (rTakes l w (rBegin 3 s)).2
  let a := blk e.2
  let c := rTakes l wElse a.2
  if c.1 = true then (.choice e.1 a.1 (blk c.2).1, (blk c.2).2) else (.choice e.1 a.1 [], c.2)
 else if seq w wPhase = true then stepP l (rTakes l w (rBegin 1 s)).2
 else (.step ⟨#[]⟩ [], rFail 11 s)
def nodeF (l : List Tok) : Nat → RS → Pc × RS
 | 0, s => (.step ⟨#[]⟩ [], s)
 | f + 1, s => nodeS l (blockP l (nodeF l f)) (keyP (tokAt l s.at_)) s
mutual
def numP : Int → Pc → List Nd
 | b, .row k us kids => ⟨k, (numPs (b + 1) kids).2, us, ⟨#[]⟩, [], zEx⟩ :: (numPs (b + 1) kids).1
 | b, .choice e x y =>
  let p := numPs (b + 2) x
  let q := numPs (b + 3 + p.1.length) y
  ⟨4, [b + 1, b + 2 + p.1.length], [], ⟨#[]⟩, [], e⟩ :: ⟨0, p.2, [], ⟨#[]⟩, [], zEx⟩ :: (p.1 ++ ⟨0, q.2, [], ⟨#[]⟩, [], zEx⟩ :: q.1)
 | _, .step nm al => [⟨3, [], [], nm, al, zEx⟩]
def numPs : Int → List Pc → List Nd × List Int
 | _, [] => ([], [])
 | b, p :: ps => (numP b p ++ (numPs (b + (numP b p).length) ps).1, b :: (numPs (b + (numP b p).length) ps).2)
end
def readP (l : List Tok) : ByteArray × List Prm × List Pc × RS :=
 let n := rName l [] (rMust l wRecipe ⟨0, 0, 1⟩)
 let p := prmF l 6 [] n.2
 let b := blockP l (nodeF l 30) p.2
 (n.1, p.1, b.1, if b.2.bad = 0 ∧ (tokAt l b.2.at_).kind ≠ 0 then rFail 11 b.2 else b.2)
def recP (t : ByteArray) : Rec × Int × Int :=
 let c := cutB t
 if c.2.1 ≠ 0 then (zRec, c.2.1, c.2.2)
 else
  let r := readP c.1
  if r.2.2.2.bad ≠ 0 then (zRec, r.2.2.2.bad, (tokAt c.1 r.2.2.2.at_).at_)
  else (⟨r.1, r.2.1, numP 0 (.row 0 [] r.2.2.1)⟩, 0, 0)
def headP : Pc → Nd
 | .row k us _ => ⟨k, [], us, ⟨#[]⟩, [], zEx⟩
 | .choice e _ _ => ⟨4, [], [], ⟨#[]⟩, [], e⟩
 | .step nm al => ⟨3, [], [], nm, al, zEx⟩
def partsP : Pc → List Pc
 | .row _ _ kids => kids
 | .choice _ a b => [.row 0 [] a, .row 0 [] b]
 | .step _ _ => []
theorem numP_eq (b : Int) (p : Pc) : numP b p = { headP p with kids := (numPs (b + 1) (partsP p)).2 } :: (numPs (b + 1) (partsP p)).1 := by
 cases p with
 | row k us kids => rw [numP]; rfl
 | choice e x y =>
  have h1 : b + 1 + 1 = b + 2 := by omega
  have h3 : ∀ n : Nat, b + 1 + ((n + 1 : Nat) : Int) = b + 2 + n := fun n => by omega
  have h4 : ∀ n : Nat, b + 2 + (n : Int) + 1 = b + 3 + n := fun n => by omega
  simp only [partsP, headP, numP, numPs, h1, List.length_cons, h3, h4, List.append_nil, List.cons_append]
 | step nm al => simp only [partsP, headP, numP, numPs]
def InR (l : List Tok) (s : RS) : Prop := 0 ≤ s.at_ ∧ s.at_ < l.length ∧ 0 ≤ s.nodes ∧ s.nodes ≤ 27 ∧ (s.bad = 0 → s.nodes ≤ 24)
def EndL (l : List Tok) : Prop := 0 < l.length ∧ (tokAt l ((l.length : Int) - 1)).kind = 0
def TakeIn (l : List Tok) : Prop := ∀ a : Int, 0 ≤ a → a < l.length → 0 ≤ (takeP l a).2.2 ∧ (takeP l a).2.2 < l.length
def Onward (l : List Tok) (s s' : RS) : Prop := InR l s' ∧ s.nodes ≤ s'.nodes
theorem Onward.refl {l : List Tok} {s : RS} (h : InR l s) : Onward l s s := ⟨h, Int.le_refl _⟩
theorem Onward.trans {l : List Tok} {a b c : RS} (h : Onward l a b) (k : Onward l b c) : Onward l a c := ⟨k.1, Int.le_trans h.2 k.2⟩
theorem rFail_bad {e : Int} (he : e ≠ 0) (s : RS) : (rFail e s).bad ≠ 0 := by unfold rFail; split <;> assumption
theorem rFail_on {l : List Tok} {s : RS} (e : Int) (he : e ≠ 0) (h : InR l s) : Onward l s (rFail e s) := by
 unfold rFail
 split
 ·exact ⟨⟨h.1, h.2.1, h.2.2.1, h.2.2.2.1, fun hc => absurd hc he⟩, Int.le_refl _⟩
 ·exact .refl h
theorem rPass_on {l : List Tok} {s : RS} (hl : EndL l) (h : InR l s) (hk : (tokAt l s.at_).kind ≠ 0) : Onward l s (rPass s) := by
 have hne : s.at_ ≠ (l.length : Int) - 1 := fun e => hk (by rw [e]; exact hl.2)
 obtain ⟨h1, h2, h3, h4, h5⟩ := h
 exact ⟨⟨by show 0 ≤ s.at_ + 1; omega, by show s.at_ + 1 < _; omega, h3, h4, h5⟩, Int.le_refl _⟩
theorem keyP_kind {t : Tok} (h : (keyP t).size ≠ 0) : t.kind = 1 := by
 unfold keyP at h
 split at h
 ·rename_i hc; exact hc.1
 ·exact absurd rfl h
theorem rIsKey_kind {l : List Tok} {w : ByteArray} {s : RS} (hw : w.size ≠ 0) (h : rIsKey l w s = true) : (tokAt l s.at_).kind = 1 ∧ s.bad = 0 := by
 unfold rIsKey at h
 rw [Bool.and_eq_true, beq_iff_eq, seq_iff] at h
 exact ⟨keyP_kind (by rw [h.2]; exact hw), h.1⟩
theorem rIsSign_kind {l : List Tok} {w : ByteArray} {s : RS} (h : rIsSign l w s = true) : (tokAt l s.at_).kind = 4 ∧ s.bad = 0 := by
 unfold rIsSign at h
 rw [Bool.and_eq_true, Bool.and_eq_true, beq_iff_eq, beq_iff_eq] at h
 exact ⟨h.2.1, h.1⟩
theorem rTakes_on {l : List Tok} {s : RS} (hl : EndL l) (w : ByteArray) (hw : w.size ≠ 0) (h : InR l s) : Onward l s (rTakes l w s).2 := by
 unfold rTakes
 split
 ·rename_i hc
  rw [Bool.or_eq_true] at hc
  refine rPass_on hl h ?_
  rcases hc with hc | hc
  ·rw [(rIsKey_kind hw hc).1]; decide
  ·rw [(rIsSign_kind hc).1]; decide
 ·exact .refl h
theorem rMust_on {l : List Tok} {s : RS} (hl : EndL l) (w : ByteArray) (hw : w.size ≠ 0) (h : InR l s) : Onward l s (rMust l w s) := by
 unfold rMust
 have h1 := rTakes_on hl w hw h
 split
 ·exact h1
 ·exact h1.trans (rFail_on 11 (by decide) h1.1)
theorem rNamed_kind {l : List Tok} {s : RS} (h : rNamed l s = true) : (tokAt l s.at_).kind = 1 := by
 unfold rNamed at h
 rw [Bool.and_eq_true, beq_iff_eq] at h
 exact h.1
theorem rName_on {l : List Tok} {s : RS} (hl : EndL l) (had : List ByteArray) (h : InR l s) : Onward l s (rName l had s).2 := by
 unfold rName
 split
 ·exact .refl h
 ·split
  ·exact rFail_on 11 (by decide) h
  ·rename_i hn
   split
   ·exact rFail_on 5 (by decide) h
   ·exact rPass_on hl h (by rw [rNamed_kind (by simpa using hn)]; decide)
theorem rMost_on {l : List Tok} {s : RS} (n most : Int) (h : InR l s) : Onward l s (rMost l n most s) := by
 unfold rMost
 split
 ·exact rFail_on 2 (by decide) h
 ·exact .refl h
theorem rExpr_on {l : List Tok} {s : RS} (ht : TakeIn l) (h : InR l s) : Onward l s (rExpr l s).2 := by
 unfold rExpr
 split
 ·exact .refl h
 ·rename_i hb
  have hb : s.bad = 0 := by simpa using hb
  obtain ⟨h1, h2, h3, h4, h5⟩ := h
  have h6 := ht s.at_ h1 h2
  exact ⟨⟨h6.1, h6.2, h3, h4, fun _ => h5 hb⟩, Int.le_refl _⟩
theorem prmN_on {l : List Tok} {s : RS} (hl : EndL l) (m : Bool) (h : InR l s) : Onward l s (prmN l m s).2 := by
 unfold prmN
 simp only
 by_cases h1 : s.bad = 0 ∧ (tokAt l s.at_).kind ≠ 2
 ·rw [if_pos h1, if_neg (rFail_bad (by decide) s)]
  exact rFail_on 11 (by decide) h
 ·rw [if_neg h1]
  split
  ·rename_i hb
   refine rPass_on hl h ?_
   have : (tokAt l s.at_).kind = 2 := Decidable.byContradiction fun hc => h1 ⟨hb, hc⟩
   rw [this]; decide
  ·exact .refl h
theorem prmP_on {l : List Tok} {s : RS} (hl : EndL l) (had : List ByteArray) (h : InR l s) : Onward l s (prmP l had s).2 := by
 have h1 := rName_on hl had h
 have h2 := h1.trans (rMust_on hl ⟨#[58, 61]⟩ (by decide) h1.1)
 have h3 := h2.trans (rTakes_on hl ⟨#[45]⟩ (by decide) h2.1)
 have h4 := h3.trans (prmN_on hl (rTakes l ⟨#[45]⟩ (rMust l ⟨#[58, 61]⟩ (rName l had s).2)).1 h3.1)
 have h5 := h4.trans (rTakes_on hl wScaled (by decide) h4.1)
 exact h5.trans (rMust_on hl ⟨#[59]⟩ (by decide) h5.1)
theorem prmF_on {l : List Tok} (hl : EndL l) : ∀ (f : Nat) (ps : List Prm) (s : RS), InR l s → Onward l s (prmF l f ps s).2
 | 0, ps, s, h => .refl h
 | f + 1, ps, s, h => by
  rw [prmF]
  split
  ·rename_i hk
   split
   ·exact rFail_on 2 (by decide) h
   ·have h1 := rPass_on hl h (by rw [(rIsKey_kind (by decide) hk).1]; decide)
    have h2 := h1.trans (prmP_on hl (ps.map (·.name)) h1.1)
    exact h2.trans (prmF_on hl f _ _ h2.1)
  ·exact .refl h
theorem rBegin_on {l : List Tok} {s : RS} (n : Int) (h1 : 1 ≤ n) (h3 : n ≤ 3) (hb : s.bad = 0) (h : InR l s) : Onward l s (rBegin n s) ∧ s.nodes + 1 ≤ (rBegin n s).nodes := by
 obtain ⟨a, b, c, d, e⟩ := h
 have e := e hb
 unfold rBegin rFail
 rw [hb]
 split
 ·simp only [if_true]
  exact ⟨⟨⟨a, b, by show 0 ≤ s.nodes + n; omega, by show s.nodes + n ≤ 27; omega, fun hc => absurd hc (show (2 : Int) ≠ 0 by decide)⟩, by show s.nodes ≤ s.nodes + n; omega⟩, by show s.nodes + 1 ≤ s.nodes + n; omega⟩
 ·exact ⟨⟨⟨a, b, by show 0 ≤ s.nodes + n; omega, by show s.nodes + n ≤ 27; omega, fun _ => by show s.nodes + n ≤ 24; omega⟩, by show s.nodes ≤ s.nodes + n; omega⟩, by show s.nodes + 1 ≤ s.nodes + n; omega⟩
theorem unitF_on {l : List Tok} (hl : EndL l) : ∀ (f : Nat) (us : List ByteArray) (s : RS), InR l s → Onward l s (unitF l f us s).2
 | 0, us, s, h => .refl h
 | f + 1, us, s, h => by
  rw [unitF]
  have h1 := rTakes_on hl ⟨#[44]⟩ (by decide) h
  split
  ·have h2 := h1.trans (rMost_on us.length 5 h1.1)
   have h3 := h2.trans (rName_on hl us h2.1)
   exact h3.trans (unitF_on hl f _ _ h3.1)
  ·exact h1
theorem argP_on {l : List Tok} {s : RS} (hl : EndL l) (ht : TakeIn l) (had : List ByteArray) (h : InR l s) : Onward l s (argP l had s).2 := by
 have h1 := rMost_on (l := l) had.length 4 h
 have h2 := h1.trans (rName_on hl had h1.1)
 have h3 := h2.trans (rMust_on hl ⟨#[61]⟩ (by decide) h2.1)
 exact h3.trans (rExpr_on ht h3.1)
theorem argF_on {l : List Tok} (hl : EndL l) (ht : TakeIn l) : ∀ (f : Nat) (m : Bool) (al : List Ar) (s : RS), InR l s → Onward l s (argF l f m al s).2
 | 0, m, al, s, h => .refl h
 | f + 1, m, al, s, h => by
  rw [argF]
  split
  ·have h1 := argP_on hl ht (al.map (·.name)) h
   have h2 := h1.trans (rTakes_on hl ⟨#[44]⟩ (by decide) h1.1)
   exact h2.trans (argF_on hl ht f _ _ _ h2.1)
  ·exact .refl h
theorem stepP_on {l : List Tok} {s : RS} (hl : EndL l) (ht : TakeIn l) (h : InR l s) : Onward l s (stepP l s).2 := by
 have h1 := rName_on hl [] h
 have h2 := h1.trans (rMust_on hl ⟨#[40]⟩ (by decide) h1.1)
 have h3 := h2.trans (argF_on hl ht 8 ((rMust l ⟨#[40]⟩ (rName l [] s).2).bad == 0 && !rIsSign l ⟨#[41]⟩ (rMust l ⟨#[40]⟩ (rName l [] s).2)) [] _ h2.1)
 have h4 := h3.trans (rMust_on hl ⟨#[41]⟩ (by decide) h3.1)
 exact h4.trans (rMust_on hl ⟨#[59]⟩ (by decide) h4.1)
def NodeOn (l : List Tok) (m : Int) (nd : RS → Pc × RS) : Prop := ∀ s, InR l s → s.bad = 0 → m ≤ s.nodes → Onward l s (nd s).2 ∧ ((nd s).2.bad = 0 → s.nodes + 1 ≤ (nd s).2.nodes)
theorem partsF_on {l : List Tok} {m : Int} {nd : RS → Pc × RS} (hn : NodeOn l m nd) : ∀ (f : Nat) (ps : List Pc) (s : RS), InR l s → m ≤ s.nodes → Onward l s (partsF l nd f ps s).2
 | 0, ps, s, h, _ => .refl h
 | f + 1, ps, s, h, hm => by
  rw [partsF]
  split
  ·rename_i hc
   have h1 := (hn s h hc.1 hm).1
   exact h1.trans (partsF_on hn f _ _ h1.1 (Int.le_trans hm h1.2))
  ·exact .refl h
theorem blockP_on {l : List Tok} {m : Int} {nd : RS → Pc × RS} (hl : EndL l) (hn : NodeOn l m nd) {s : RS} (h : InR l s) (hm : m ≤ s.nodes) : Onward l s (blockP l nd s).2 := by
 have h1 := rMust_on hl ⟨#[123]⟩ (by decide) h
 have h2 := h1.trans (partsF_on hn 30 [] _ h1.1 (Int.le_trans hm h1.2))
 exact h2.trans (rMust_on hl ⟨#[125]⟩ (by decide) h2.1)
theorem seq_size {a b : ByteArray} (h : seq a b = true) (hb : b.size ≠ 0) : a.size ≠ 0 := by rw [seq_iff.1 h]; exact hb
theorem nodeS_on {l : List Tok} {m : Int} {nd : RS → Pc × RS} (hl : EndL l) (ht : TakeIn l) (hn : NodeOn l (m + 1) nd) (w : ByteArray) : NodeOn l m (nodeS l (blockP l nd) w) := fun s h hb hm => by
 unfold nodeS
 have one := rBegin_on 1 (by decide) (by decide) hb h
 have fin : ∀ {a b : RS}, s.nodes + 1 ≤ a.nodes → Onward l s a → Onward l a b → Onward l s b ∧ (b.bad = 0 → s.nodes + 1 ≤ b.nodes) := fun h1 h2 h3 => ⟨h2.trans h3, fun _ => Int.le_trans h1 h3.2⟩
 split
 ·rename_i hw
  have hw0 : w.size ≠ 0 := by rcases hw with hw | hw <;> exact seq_size hw (by decide)
  have h1 := rTakes_on hl w hw0 one.1.1
  exact fin one.2 one.1 (h1.trans (blockP_on hl hn h1.1 (by have := h1.2; omega)))
 ·split
  ·rename_i hw
   have h1 := rTakes_on hl w (seq_size hw (by decide)) one.1.1
   have h2 := h1.trans (rName_on hl [] h1.1)
   have h3 := h2.trans (unitF_on hl 8 [(rName l [] (rTakes l w (rBegin 1 s)).2).1] _ h2.1)
   exact fin one.2 one.1 (h3.trans (blockP_on hl hn h3.1 (by have := h3.2; omega)))
  ·split
   ·rename_i hw
    have three := rBegin_on 3 (by decide) (by decide) hb h
    have h1 := rTakes_on hl w (seq_size hw (by decide)) three.1.1
    have h2 := h1.trans (rExpr_on ht h1.1)
    have h3 := h2.trans (blockP_on hl hn h2.1 (by have := h2.2; omega))
    have h4 := h3.trans (rTakes_on hl wElse (by decide) h3.1)
    simp only
    split
    ·exact fin three.2 three.1 (h4.trans (blockP_on hl hn h4.1 (by have := h4.2; omega)))
    ·exact fin three.2 three.1 h4
   ·split
    ·rename_i hw
     have h1 := rTakes_on hl w (seq_size hw (by decide)) one.1.1
     exact fin one.2 one.1 (h1.trans (stepP_on hl ht h1.1))
    ·exact ⟨rFail_on 11 (by decide) h, fun hc => absurd hc (rFail_bad (by decide) s)⟩
theorem nodeF_on {l : List Tok} (hl : EndL l) (ht : TakeIn l) : ∀ f : Nat, NodeOn l (25 - f) (nodeF l f)
 | 0 => fun s h hb hm => by have := h.2.2.2.2 hb; omega
 | f + 1 => fun s h hb hm => by
  rw [nodeF]
  have h1 := nodeF_on hl ht f
  have e : 25 - ((f + 1 : Nat) : Int) + 1 = 25 - f := by omega
  rw [← e] at h1
  exact nodeS_on hl ht h1 _ s h hb hm
end Go.Proofs.YtgcfjkfipkfijaaGreatDoor
namespace Go.Proofs.YtgcfjkfipkfijaaGreatDoor
open Go Go.RowKit Go.Lib
def foldI (s : ByteArray) (i : Nat) : List UInt8 := (s.data.toList.take i).map low ++ s.data.toList.drop i
theorem foldI_zero (s : ByteArray) : foldI s 0 = s.data.toList := by simp [foldI]
theorem foldI_len (s : ByteArray) (i : Nat) : (foldI s i).length = s.size := by
 have h := size_data s
 simp only [foldI, List.length_append, List.length_map, List.length_take, List.length_drop]
 omega
theorem foldI_end (s : ByteArray) : foldI s s.size = (foldP s).data.toList := by
 have h := size_data s
 unfold foldI foldP
 rw [List.take_of_length_le (by omega), List.drop_of_length_le (by omega)]
 simp
theorem foldI_at (s : ByteArray) (i : Nat) (hi : i < s.size) : (foldI s i)[i]? = some s[i] := by
 have h := size_data s
 unfold foldI
 rw [List.getElem?_append_right (by simp; omega), List.length_map, List.length_take, Nat.min_eq_left (by omega), List.getElem?_drop]
 have hi' : i < s.data.toList.length := by omega
 simp only [Nat.sub_self, Nat.add_zero]
 exact List.getElem?_eq_getElem hi'
theorem foldI_succ (s : ByteArray) (i : Nat) (hi : i < s.size) : foldI s (i + 1) = (foldI s i).set i (low s[i]) := by
 have h := size_data s
 have hi' : i < s.data.toList.length := by omega
 have e : s.data.toList[i] = s[i] := rfl
 unfold foldI
 rw [List.take_succ_eq_append_getElem hi', List.map_append, List.set_append_right _ _ (by simp; omega)]
 simp only [List.length_map, List.length_take, Nat.min_eq_left (Nat.le_of_lt hi'), Nat.sub_self, List.map_cons, List.map_nil, List.append_assoc, List.singleton_append]
 rw [List.drop_eq_getElem_cons hi', List.set_cons_zero, e]
theorem foldI_same {s : ByteArray} {i : Nat} (hi : i < s.size) (h : low s[i] = s[i]) : foldI s (i + 1) = foldI s i := by
 rw [foldI_succ s i hi, h]
 have h1 := foldI_at s i hi
 have h2 : i < (foldI s i).length := by rw [foldI_len]; exact hi
 rw [List.getElem?_eq_getElem h2] at h1
 rw [← Option.some.inj h1, List.set_getElem_self]
theorem low_int (c : UInt8) : ((low c).toNat : Int) = if 65 ≤ (c.toNat : Int) ∧ (c.toNat : Int) ≤ 90 then (c.toNat : Int) + 32 else c.toNat := by
 unfold low
 have e : (65 ≤ c ∧ c ≤ 90) ↔ (65 ≤ (c.toNat : Int) ∧ (c.toNat : Int) ≤ 90) := by
  simp [UInt8.le_iff_toNat_le]
  omega
 by_cases h : 65 ≤ c ∧ c ≤ 90
 ·rw [if_pos h, if_pos (e.1 h), UInt8.toNat_add]
  have := (e.1 h).2
  simp
  omega
 ·rw [if_neg h, if_neg (fun hc => h (e.2 hc))]
def BytB (w : World) (K : Nat) (l : List UInt8) : Prop := K < w.heap.size ∧ ∀ j (hj : j < l.length), w.cell? ⟨K, j, none⟩ = some (.int .u8 (l[j].toNat : Int)) ∧ w.frozen? ⟨K, j, none⟩ = false
theorem BytB.set {w : World} {K i : Nat} {l : List UInt8} (h : BytB w K l) (c : UInt8) (_hi : i < l.length) : BytB (w.setCell ⟨K, i, none⟩ (.int .u8 (c.toNat : Int))) K (l.set i c) := by
 refine ⟨by simpa [World.setCell] using h.1, fun j hj => ?_⟩
 rw [List.length_set] at hj
 obtain ⟨h1, h2⟩ := h.2 j hj
 refine ⟨?_, by rw [World.frozen?_setCell]; exact h2⟩
 by_cases e : i = j
 ·subst e
  rw [List.getElem_set_self]
  exact World.cell?_setCell_same _ _ _ h1
 ·rw [List.getElem_set_ne e, World.cell?_setCell_other _ _ _ _ (fun hc => e (by injection hc))]
  exact h1
theorem under_str : Tryz.prog.underlying 9 = some .string := by kernel_rfl
theorem under_u8s : Tryz.prog.underlying 108 = some (.slice 5) := by kernel_rfl
theorem under_u8 : Tryz.prog.underlying 5 = some (.int .u8) := by kernel_rfl
theorem conv_bytes (s : ByteArray) (w : World) : ∃ cap w1, (convert 9 108 (.string s)).run Tryz.prog w = .ok (.slice (some ⟨w.heap.size, 0, none⟩) s.size cap) w1 ∧ Below w.heap.size w w1 ∧ BytB w1 w.heap.size s.data.toList := by
 refine ⟨_, _, run_bytes_of_string w _ _ _ s under_str under_u8s under_u8, (Below.refl _ _).drew.alloc (Nat.le_refl _) _, by simp, fun j hj => ⟨?_, ?_⟩⟩
 ·have hj' : j < s.data.size := by simpa using hj
  have h := World.cell?_alloc_mark w.drew (bytesRow s (grownCap w s.size 0 5)) 5 ((bytesRow s (grownCap w s.size 0 5)).size, (bytesRow s (grownCap w s.size 0 5)).size + 1) j
  exact h.trans ((bytesRow_at s _ j hj').trans (by simp))
 ·have hj' : j < s.data.size := by simpa using hj
  have h := World.frozen?_alloc_mark w.drew (bytesRow s (grownCap w s.size 0 5)) 5 (bytesRow s (grownCap w s.size 0 5)).size ((bytesRow s (grownCap w s.size 0 5)).size + 1) j
  refine h.trans ?_
  have : j < (bytesRow s (grownCap w s.size 0 5)).size := by unfold bytesRow; simp; simp at hj'; omega
  rw [decide_eq_false (by omega)]
  rfl
theorem conv_back {K cap n : Nat} {w : World} {l : List UInt8} (h : BytB w K l) (hn : l.length = n) : (convert 108 9 (.slice (some ⟨K, 0, none⟩) n cap)).run Tryz.prog w = .ok (.string ⟨l.toArray⟩) w := by
 subst hn
 exact run_convert_bytes_back w _ _ _ ⟨K, 0, none⟩ cap l under_u8s under_u8 under_str (fun j hj => by
  have := (h.2 j hj).1
  by_cases e : j = 0
  ·subst e; exact this
  ·simpa [Addr.add, e] using this)
set_option maxHeartbeats 2000000 in
set_option maxRecDepth 100000 in
theorem fold_any (s : ByteArray) (w : World) (hs : s.size ≤ 9223372036854775806) :
  Calls Tryz.prog 80 #[.string s] w fun e w' => e = .returned (.string (foldP s)) ∧ Below w.heap.size w w' := by
 obtain ⟨cap, w1, hconv, hb1, hB⟩ := conv_bytes s w
 obtain ⟨K, hK⟩ : ∃ K, w.heap.size = K := ⟨_, rfl⟩
 rw [hK] at hconv hB
 have HK := Lib.hid hK
 have HB1 := Lib.hid hb1
 have HB := Lib.hid hB
 clear hK hb1 hB
 go_enter Tryz.func80, Tryz.ntmps80
 go_wp2_with fail
 clear hconv
 go_loopg [10] (s.size + 1) (fun k i wr => ∃ n : Nat, i = .int .i64 n ∧ n ≤ s.size ∧ s.size - n < k ∧ BytB wr K (foldI s n) ∧ Below K w wr)
 case atStart => exact ⟨0, rfl, Nat.zero_le _, by omega, by rw [foldI_zero]; exact HB.out, by have := HB1.out; rwa [HK.out] at this⟩
 case round =>
  obtain ⟨n, rfl, hn, hnk, hbr, hbw⟩ := hrel
  obtain ⟨gk, rfl⟩ : ∃ k, gk = k + 1 := ⟨gk - 1, by omega⟩
  have HBR := Lib.hid hbr
  have HBW := Lib.hid hbw
  clear hbr hbw
  by_cases hlt : n < s.size
  ·have hl := foldI_len s n
   obtain ⟨c0, f0⟩ := HBR.out.2 n (by omega)
   have he : (foldI s n)[n]'(by omega) = s[n] := by
    have := foldI_at s n hlt
    rw [List.getElem?_eq_getElem (by omega)] at this
    exact Option.some.inj this
   rw [he] at c0
   have HL := Lib.hid hl
   have hu : (s[n].toNat : Int) < 256 := by have := s[n].toNat_lt; omega
   have HLOW := Lib.hid (low_int s[n])
   have HSUC := Lib.hid (foldI_succ s n hlt)
   obtain ⟨c, hc⟩ : ∃ c, s[n] = c := ⟨_, rfl⟩
   rw [hc] at c0 hu HLOW HSUC
   have HC := Lib.hid hc
   clear hl he hc
   by_cases h1 : 65 ≤ (c.toNat : Int)
   ·by_cases h2 : (c.toNat : Int) ≤ 90
    ·have hs1 := HBR.out.set (low c) (by rw [HL.out]; exact hlt)
     rw [HLOW.out, if_pos ⟨h1, h2⟩, ← HSUC.out] at hs1
     have HS1 := Lib.hid hs1
     clear hs1
     go_wp2_with fail
     go_roundg gk
     case measure => omega
     case rel => exact ⟨n + 1, by go_num, by omega, by omega, HS1.out, HBW.out.setCell (by simp) _⟩
    ·have hsame : foldI s (n + 1) = foldI s n := foldI_same hlt (by rw [HC.out]; exact UInt8.toNat_inj.1 (by have := HLOW.out; rw [if_neg (fun hc => h2 hc.2)] at this; omega))
     have HS1 := Lib.hid hsame
     clear hsame
     go_wp2_with fail
     go_roundg gk
     case measure => omega
     case rel => exact ⟨n + 1, by go_num, by omega, by omega, by rw [HS1.out]; exact HBR.out, HBW.out⟩
   ·have hsame : foldI s (n + 1) = foldI s n := foldI_same hlt (by rw [HC.out]; exact UInt8.toNat_inj.1 (by have := HLOW.out; rw [if_neg (fun hc => h1 hc.1)] at this; omega))
    have HS1 := Lib.hid hsame
    clear hsame
    go_wp2_with fail
    go_roundg gk
    case measure => omega
    case rel => exact ⟨n + 1, by go_num, by omega, by omega, by rw [HS1.out]; exact HBR.out, HBW.out⟩
  ·obtain rfl : n = s.size := by omega
   have hback := conv_back (cap := cap) HBR.out (foldI_len s s.size)
   rw [foldI_end] at hback
   go_wp2_with fail
   go_ret
   refine ⟨rfl, ?_⟩
   have := HBW.out
   rwa [← HK.out] at this
end Go.Proofs.YtgcfjkfipkfijaaGreatDoor
namespace Go.Proofs.YtgcfjkfipkfijaaGreatDoor
open Go Go.RowKit Go.Lib
theorem contains_inB (l : List ByteArray) (x : ByteArray) : Lib.containsS l x = inB x l := by
 rw [Bool.eq_iff_iff, Lib.containsS_iff, inB, List.any_eq_true]
 constructor
 ·intro h; exact ⟨x, h, seq_iff.2 rfl⟩
 ·rintro ⟨y, hy, h⟩; rwa [← seq_iff.1 h]
theorem str_beq (a b : ByteArray) : (a.toList == b.toList) = seq a b := by rw [Lib.toList_data, Lib.toList_data]; exact rfl
abbrev keyV : Array Value := #[.string ⟨#[114, 101, 99, 105, 112, 101]⟩, .string ⟨#[112, 97, 114, 97, 109]⟩, .string ⟨#[115, 99, 97, 108, 101, 100]⟩, .string ⟨#[112, 97, 114]⟩, .string ⟨#[115, 101, 113]⟩, .string ⟨#[117, 110, 105, 116]⟩, .string ⟨#[105, 102]⟩, .string ⟨#[101, 108, 115, 101]⟩, .string ⟨#[112, 104, 97, 115, 101]⟩]
set_option maxHeartbeats 2000000 in
theorem key_any (t : Tok) (w : World) (hs : t.text.size ≤ 9223372036854775806) :
  Calls Tryz.prog 52 #[tokV t] w fun e w' => e = .returned (.string (keyP t)) ∧ Below w.heap.size w w' := by
 obtain ⟨k, s, n, a⟩ := t
 obtain ⟨x, hx⟩ : ∃ x, keyP ⟨k, s, n, a⟩ = x := ⟨_, rfl⟩
 rw [hx]
 unfold keyP at hx
 simp only at hx hs
 have HF := Lib.hid (fun W => fold_any s W hs)
 obtain ⟨f, hf⟩ : ∃ f, foldP s = f := ⟨_, rfl⟩
 rw [hf] at hx HF
 have HX := Lib.hid hx
 clear hx hf
 have HC := Lib.hid (fun (W : World) => Tryz.slices_Contains_string W.heap.size 0 9 9 keyWords f (W.alloc (.cells keyV 9)) (by decide) (by decide) (fun j hj => by
  have h := heap_alloc_new W (.cells keyV 9)
  have hj : j < 9 := hj
  rcases (show j = 0 ∨ j = 1 ∨ j = 2 ∨ j = 3 ∨ j = 4 ∨ j = 5 ∨ j = 6 ∨ j = 7 ∨ j = 8 by omega) with rfl | rfl | rfl | rfl | rfl | rfl | rfl | rfl | rfl <;> exact blk_cell h _))
 by_cases hk : k = 1
 ·subst hk
  have hc := contains_inB (keyWords.take 9) f
  rw [show keyWords.take 9 = keyWords from rfl] at hc
  cases hi : inB f keyWords with
  | true =>
   rw [hi] at hc
   have h := HX.out
   rw [if_pos ⟨rfl, hi⟩] at h
   have HX1 := Lib.hid h
   have HCC := Lib.hid hc
   clear hi hc h HX
   go_enter Tryz.func52, Tryz.ntmps52
   go_wp2_with fail
   refine (HF.out _).mono ?_
   rintro e w2 ⟨rfl, hb2⟩
   have HK2 := Lib.hid ((hb2.block w.heap.size (by simp)).trans (heap_alloc_new w _))
   have HB2 := Lib.hid hb2
   obtain ⟨⟨k0, k1, k2, k3⟩, _⟩ := blk4 HK2.out
   clear hb2
   go_wp2_with fail
   refine (HC.out w2).mono ?_
   rw [show keyWords.take 9 = keyWords from rfl, HCC.out]
   rintro e w3 ⟨rfl, rfl⟩
   go_wp2
   go_ret
   exact ⟨ret_str HX1.out, (((Below.refl _ _).alloc (Nat.le_refl _) _).trans (HB2.out.mono (by simp))).alloc (by have := HB2.out.size; simp at this; omega) _⟩
  | false =>
   rw [hi] at hc
   have h := HX.out
   rw [if_neg (fun hc => by rw [hi] at hc; exact absurd hc.2 (by decide))] at h
   have HX1 := Lib.hid h
   have HCC := Lib.hid hc
   clear hi hc h HX
   go_enter Tryz.func52, Tryz.ntmps52
   go_wp2_with fail
   refine (HF.out _).mono ?_
   rintro e w2 ⟨rfl, hb2⟩
   have HK2 := Lib.hid ((hb2.block w.heap.size (by simp)).trans (heap_alloc_new w _))
   have HB2 := Lib.hid hb2
   obtain ⟨⟨k0, k1, k2, k3⟩, _⟩ := blk4 HK2.out
   clear hb2
   go_wp2_with fail
   refine (HC.out w2).mono ?_
   rw [show keyWords.take 9 = keyWords from rfl, HCC.out]
   rintro e w3 ⟨rfl, rfl⟩
   go_wp2
   go_ret
   exact ⟨ret_str HX1.out, (((Below.refl _ _).alloc (Nat.le_refl _) _).trans (HB2.out.mono (by simp))).alloc (by have := HB2.out.size; simp at this; omega) _⟩
 ·have hkb : (k != 1) = true := bne_iff_ne.2 hk
  have h := HX.out
  rw [if_neg (fun hc => hk hc.1)] at h
  have HX1 := Lib.hid h
  clear hk h HX
  go_enter Tryz.func52, Tryz.ntmps52
  go_wp2_with fail
  refine (HF.out _).mono ?_
  rintro e w2 ⟨rfl, hb2⟩
  have HK2 := Lib.hid ((hb2.block w.heap.size (by simp)).trans (heap_alloc_new w _))
  have HB2 := Lib.hid hb2
  obtain ⟨⟨k0, k1, k2, k3⟩, _⟩ := blk4 HK2.out
  clear hb2
  go_wp2_with fail
  go_ret
  exact ⟨ret_str HX1.out, ((Below.refl _ _).alloc (Nat.le_refl _) _).trans (HB2.out.mono (by simp))⟩
structure Toks (l : List Tok) : Prop where
 fin : EndL l
 take : TakeIn l
 text : ∀ i, (tokAt l i).text.size ≤ 8192
def RdP (w : World) (g : Nat) (A : Option Addr) (n c : Nat) (s : RS) : Prop :=
 w.heap[g]? = some (.cells #[.slice A n c, .int .i64 s.at_, .int .i64 s.bad, .int .i64 s.nodes] 51 (0, 0))
structure Rdr (l : List Tok) (g : Nat) (A : Option Addr) (c : Nat) (w : World) (s : RS) : Prop where
 rd : RdP w g A l.length c s
 row : tokK.Row [g] w A l
 cap : l.length ≤ c
 inr : InR l s
theorem Rdr.step {l : List Tok} {g c : Nat} {A : Option Addr} {w w' : World} {s : RS} (h : Rdr l g A c w s) (hb : Below w.heap.size w w') : Rdr l g A c w' s :=
 ⟨(hb.block g (blk_lt h.rd)).trans h.rd, h.row.keep (Same.of_below hb), h.cap, h.inr⟩
theorem Rdr.next {l : List Tok} {g c : Nat} {A : Option Addr} {w w' : World} {s s' : RS} (h : Rdr l g A c w s) (hr : RdP w' g A l.length c s') (hs : Same [g] w w') (hi : InR l s') : Rdr l g A c w' s' :=
 ⟨hr, h.row.keep hs, h.cap, hi⟩
theorem Rdr.lt {l : List Tok} {g c : Nat} {A : Option Addr} {w : World} {s : RS} (h : Rdr l g A c w s) : g < w.heap.size := blk_lt h.rd
theorem Rdr.set {l : List Tok} {g c : Nat} {A : Option Addr} {w : World} {s : RS} (h : Rdr l g A c w s) (i : Nat) (v : Value) : (w.setCell ⟨g, i, none⟩ v).heap[g]? = some (.cells (#[.slice A l.length c, .int .i64 s.at_, .int .i64 s.bad, .int .i64 s.nodes].setIfInBounds i v) 51 (0, 0)) := blk_set h.rd i v
abbrev Stp (g : Nat) (A : Option Addr) (n c : Nat) (v : Value) (s' : RS) (w : World) (r : Ending) (w' : World) : Prop := r = .returned v ∧ RdP w' g A n c s' ∧ Same [g] w w'
theorem tokAt_get {l : List Tok} {k : Nat} (hk : k < l.length) : tokAt l (k : Int) = l[k] := by
 unfold tokAt
 rw [if_neg (by omega), Int.toNat_natCast, List.getD_eq_getElem?_getD, List.getElem?_eq_getElem hk]
 exact rfl
section
variable {l : List Tok} {g c : Nat} {A : Option Addr} {s : RS} {w : World}
theorem ok_any (h : Rdr l g A c w s) : Calls Tryz.prog 28 #[.pointer (some ⟨g, 0, none⟩)] w fun r w' => r = .returned (.bool (s.bad == 0)) ∧ w = w' := by
 obtain ⟨⟨c0, c1, c2, c3⟩, f0, f1, f2, f3⟩ := blk4 h.rd
 clear h
 go_enter Tryz.func28, Tryz.ntmps28
 go_wp2_with fail
 go_ret
 exact ⟨rfl, rfl⟩
theorem rfail_rd {n : Nat} (h : RdP w g A n c s) (x : Int) : Calls Tryz.prog 30 #[.pointer (some ⟨g, 0, none⟩), .int .i64 x] w (Stp g A n c (.tuple #[]) (rFail x s) w) := by
 obtain ⟨⟨c0, c1, c2, c3⟩, f0, f1, f2, f3⟩ := blk4 h
 have H := Lib.hid h
 clear h
 by_cases hb : s.bad = 0
 ·have hbb : (s.bad == 0) = true := beq_iff_eq.2 hb
  have HB := Lib.hid hb
  clear hb
  go_enter Tryz.func30, Tryz.ntmps30
  go_wp2_with fail
  refine bodyPost_ret (v := .tuple #[]) (by simp [results, Tryz.results30, go_sem]) rfl ⟨rfl, ?_, (Same.refl [g] w).setCell (.inl (by simp)) _⟩
  unfold rFail
  rw [if_pos HB.out]
  exact blk_set H.out 2 _
 ·have hbb : (s.bad == 0) = false := beq_eq_false_iff_ne.2 hb
  have HB := Lib.hid hb
  clear hb
  go_enter Tryz.func30, Tryz.ntmps30
  go_wp2_with fail
  refine bodyPost_ret (v := .tuple #[]) (by simp [results, Tryz.results30, go_sem]) rfl ⟨rfl, ?_, Same.refl [g] w⟩
  unfold rFail
  rw [if_neg HB.out]
  exact H.out
theorem rfail_any (h : Rdr l g A c w s) (x : Int) : Calls Tryz.prog 30 #[.pointer (some ⟨g, 0, none⟩), .int .i64 x] w (Stp g A l.length c (.tuple #[]) (rFail x s) w) := rfail_rd h.rd x
set_option maxHeartbeats 2000000 in
theorem token_any' (h : Rdr l g A c w s) : Calls Tryz.prog 29 #[.pointer (some ⟨g, 0, none⟩)] w fun r w' => r = .returned (tokV (tokAt l s.at_)) ∧ Below w.heap.size w w' := by
 obtain ⟨at_, bad, nodes⟩ := s
 obtain ⟨k, rfl⟩ := Int.eq_ofNat_of_zero_le (show 0 ≤ at_ from h.inr.1)
 have hk : k < l.length := by have := h.inr.2.1; simp only at this; omega
 obtain ⟨ad, rfl⟩ := row_some0 h.row (by omega)
 obtain ⟨x0, x1, x2, x3⟩ := tok_some h.row k hk
 have hlt := World.block_lt_of_cell? w _ x0
 have hm := h.row.1
 have hg := h.lt
 have HC := Lib.hid (blk4 h.rd).1
 have HX := Lib.hid (tokAt_get hk)
 have hkz : (k : Int) < l.length := by omega
 have hk0 : (0 : Int) ≤ k := by omega
 have hlcz : (l.length : Int) ≤ c := by have := h.cap; omega
 clear h
 go_enter Tryz.func29, Tryz.ntmps29
 go_wp2_with fail
 obtain ⟨w1, hw1⟩ : ∃ w1, (w.alloc (.cells #[.int .i64 0, .string ⟨#[]⟩, .int .i64 0, .int .i64 0] 60 (0, 0))) = w1 := ⟨_, rfl⟩
 have hb1 : Below w.heap.size w w1 := hw1 ▸ (Below.refl _ _).alloc (Nat.le_refl _) _
 have hbb : w1.heap[w.heap.size]? = some (.cells #[.int .i64 0, .string ⟨#[]⟩, .int .i64 0, .int .i64 0] 60 (0, 0)) := hw1 ▸ heap_alloc_new _ _
 rw [hw1]
 have q0 := (hb1.cell hg).trans HC.out.1
 have q1 := (hb1.cell hg).trans HC.out.2.1
 have y0 := (hb1.cell hlt).trans x0
 have y1 := (hb1.cell (World.block_lt_of_cell? w _ x1)).trans x1
 have y2 := (hb1.cell (World.block_lt_of_cell? w _ x2)).trans x2
 have y3 := (hb1.cell (World.block_lt_of_cell? w _ x3)).trans x3
 obtain ⟨⟨z0, z1, z2, z3⟩, f0, f1, f2, f3⟩ := blk4 hbb
 have HB := Lib.hid hb1
 clear hb1 hbb hw1
 go_region_with (fail)
 all_goals
  go_wp2
  refine bodyPost_ret (v := tokV l[k]) (by simp [results, Tryz.results29, go_sem, *]) rfl ⟨by rw [HX.out], ?_⟩
  exact Below.drew (below_set4' HB.out (Nat.le_refl _) _ _ _ _)
end
end Go.Proofs.YtgcfjkfipkfijaaGreatDoor
namespace Go.Proofs.YtgcfjkfipkfijaaGreatDoor
open Go Go.RowKit Go.Lib
section
variable {l : List Tok} {g c : Nat} {A : Option Addr} {s : RS} {w : World}
theorem isKey_any (T : Toks l) (h : Rdr l g A c w s) (x : ByteArray) : Calls Tryz.prog 54 #[.pointer (some ⟨g, 0, none⟩), .string x] w fun r w' => r = .returned (.bool (rIsKey l x s)) ∧ Below w.heap.size w w' := by
 have HOK := Lib.hid (ok_any h)
 have HTK := Lib.hid (token_any' h)
 obtain ⟨t, ht⟩ : ∃ t, tokAt l s.at_ = t := ⟨_, rfl⟩
 have HKY := Lib.hid (fun W => key_any t W (by have := T.text s.at_; rw [ht] at this; omega))
 obtain ⟨q, hq⟩ : ∃ q, seq (keyP t) x = q := ⟨_, rfl⟩
 have HQ := Lib.hid hq
 have HX : Hid (rIsKey l x s = (s.bad == 0 && q)) := Lib.hid (by unfold rIsKey; rw [ht, hq])
 rw [ht] at HTK
 have hq' : ((keyP t).toList == x.toList) = q := by rw [str_beq]; exact hq
 clear h hq ht
 by_cases hb : s.bad = 0
 ·have hbb : (s.bad == 0) = true := beq_iff_eq.2 hb
  rw [hbb] at HOK HX
  clear hb hbb
  go_enter Tryz.func54, Tryz.ntmps54
  go_wp2_with fail
  refine HOK.out.mono ?_
  rintro e w1 ⟨rfl, rfl⟩
  go_wp2_with fail
  refine HTK.out.mono ?_
  rintro e w2 ⟨rfl, hb2⟩
  have HB2 := Lib.hid hb2
  clear hb2
  go_wp2_with fail
  refine (HKY.out w2).mono ?_
  rintro e w3 ⟨rfl, hb3⟩
  have HB3 := Lib.hid (HB2.out.trans (hb3.mono HB2.out.size))
  clear hb3
  go_wp2_with fail
  go_ret
  exact ⟨by rw [HX.out]; rfl, HB3.out⟩
 ·have hbb : (s.bad == 0) = false := beq_eq_false_iff_ne.2 hb
  rw [hbb] at HOK HX
  clear hb hbb
  go_enter Tryz.func54, Tryz.ntmps54
  go_wp2_with fail
  refine HOK.out.mono ?_
  rintro e w1 ⟨rfl, rfl⟩
  go_wp2_with fail
  go_ret
  exact ⟨by rw [HX.out]; rfl, Below.refl _ _⟩
theorem isSign_any (h : Rdr l g A c w s) (x : ByteArray) : Calls Tryz.prog 55 #[.pointer (some ⟨g, 0, none⟩), .string x] w fun r w' => r = .returned (.bool (rIsSign l x s)) ∧ Below w.heap.size w w' := by
 have HOK := Lib.hid (fun W (hb : Below w.heap.size w W) => ok_any (h.step hb))
 have HTK := Lib.hid (token_any' h)
 obtain ⟨t, ht⟩ : ∃ t, tokAt l s.at_ = t := ⟨_, rfl⟩
 obtain ⟨q, hq⟩ : ∃ q, seq t.text x = q := ⟨_, rfl⟩
 obtain ⟨p, hp⟩ : ∃ p, (t.kind == 4) = p := ⟨_, rfl⟩
 obtain ⟨b, hb⟩ : ∃ b, (s.bad == 0) = b := ⟨_, rfl⟩
 have HX : Hid (rIsSign l x s = (b && (p && q))) := Lib.hid (by unfold rIsSign; rw [ht, hq, hp, hb])
 rw [ht] at HTK
 rw [hb] at HOK
 have hq' : (t.text.toList == x.toList) = q := by rw [str_beq]; exact hq
 clear h hq ht hb
 go_enter Tryz.func55, Tryz.ntmps55
 go_wp2_with fail
 refine HTK.out.mono ?_
 rintro e w2 ⟨rfl, hb2⟩
 have HB2 := Lib.hid (hb2.alloc hb2.size (.cells #[.int .i64 t.kind, .string t.text, .int .i64 t.n, .int .i64 t.at_] 60 (0, 0)))
 obtain ⟨⟨k0, k1, k2, k3⟩, _⟩ := blk4 (heap_alloc_new w2 (.cells #[.int .i64 t.kind, .string t.text, .int .i64 t.n, .int .i64 t.at_] 60 (0, 0)))
 clear hb2
 cases b
 ·go_wp2_with fail
  refine (HOK.out _ HB2.out).mono ?_
  rintro e w3 ⟨rfl, rfl⟩
  go_wp2_with fail
  go_ret
  exact ⟨by rw [HX.out]; rfl, HB2.out⟩
 ·cases p
  all_goals
   go_wp2_with fail
   refine (HOK.out _ HB2.out).mono ?_
   rintro e w3 ⟨rfl, rfl⟩
   go_wp2_with fail
   go_ret
   exact ⟨by rw [HX.out]; rfl, HB2.out⟩
theorem rtakes_any (T : Toks l) (h : Rdr l g A c w s) (x : ByteArray) : Calls Tryz.prog 51 #[.pointer (some ⟨g, 0, none⟩), .string x] w (Stp g A l.length c (.bool (rTakes l x s).1) (rTakes l x s).2 w) := by
 have HK := Lib.hid (isKey_any T h x)
 have HS := Lib.hid (fun W (hb : Below w.heap.size w W) => isSign_any (h.step hb) x)
 have H := Lib.hid h
 have hin := h.inr.2.1
 have hin0 := h.inr.1
 have hlr := h.row.1
 have HX : Hid (rTakes l x s = if (rIsKey l x s || rIsSign l x s) = true then (true, rPass s) else (false, s)) := rfl
 have hadd : IntKind.i64.wrap (s.at_ + 1) = s.at_ + 1 := IntWalk.i64_in _ (by omega)
 clear h
 cases hk : rIsKey l x s with
 | true =>
  rw [hk] at HK HX
  clear hk
  go_enter Tryz.func51, Tryz.ntmps51
  go_wp2_with fail
  refine HK.out.mono ?_
  rintro e w2 ⟨rfl, hb2⟩
  have H2 := Lib.hid (H.out.step hb2)
  have HB2 := Lib.hid hb2
  obtain ⟨⟨c0, c1, c2, c3⟩, f0, f1, f2, f3⟩ := blk4 H2.out.rd
  clear hb2
  go_wp2_with fail
  go_ret
  refine ⟨by rw [HX.out]; rfl, ?_, (Same.of_below HB2.out).setCell (.inl (by simp)) _⟩
  rw [HX.out]
  exact H2.out.set 1 _
 | false =>
  rw [hk] at HK HX
  clear hk
  cases hs : rIsSign l x s with
  | true =>
   rw [hs] at HS HX
   clear hs
   go_enter Tryz.func51, Tryz.ntmps51
   go_wp2_with fail
   refine HK.out.mono ?_
   rintro e w2 ⟨rfl, hb2⟩
   have HB2 := Lib.hid hb2
   clear hb2
   go_wp2_with fail
   refine (HS.out w2 HB2.out).mono ?_
   rintro e w3 ⟨rfl, hb3⟩
   have HB3 := Lib.hid (HB2.out.trans (hb3.mono HB2.out.size))
   have H2 := Lib.hid (H.out.step HB3.out)
   obtain ⟨⟨c0, c1, c2, c3⟩, f0, f1, f2, f3⟩ := blk4 H2.out.rd
   clear hb3
   go_wp2_with fail
   go_ret
   refine ⟨by rw [HX.out]; rfl, ?_, (Same.of_below HB3.out).setCell (.inl (by simp)) _⟩
   rw [HX.out]
   exact H2.out.set 1 _
  | false =>
   rw [hs] at HS HX
   clear hs
   go_enter Tryz.func51, Tryz.ntmps51
   go_wp2_with fail
   refine HK.out.mono ?_
   rintro e w2 ⟨rfl, hb2⟩
   have HB2 := Lib.hid hb2
   clear hb2
   go_wp2_with fail
   refine (HS.out w2 HB2.out).mono ?_
   rintro e w3 ⟨rfl, hb3⟩
   have HB3 := Lib.hid (HB2.out.trans (hb3.mono HB2.out.size))
   clear hb3
   go_wp2_with fail
   go_ret
   refine ⟨by rw [HX.out]; rfl, ?_, Same.of_below HB3.out⟩
   rw [HX.out]
   exact (H.out.step HB3.out).rd
theorem must_any (T : Toks l) (h : Rdr l g A c w s) (x : ByteArray) (hx : x.size ≠ 0) : Calls Tryz.prog 24 #[.pointer (some ⟨g, 0, none⟩), .string x] w (Stp g A l.length c (.tuple #[]) (rMust l x s) w) := by
 have HTK := Lib.hid (rtakes_any T h x)
 have HN := Lib.hid (fun W (hr : RdP W g A l.length c (rTakes l x s).2) (hs : Same [g] w W) => rfail_any (h.next hr hs (rTakes_on T.fin x hx h.inr).1) 11)
 have HX : Hid (rMust l x s = if (rTakes l x s).1 = true then (rTakes l x s).2 else rFail 11 (rTakes l x s).2) := rfl
 obtain ⟨⟨b, s'⟩, hp⟩ : ∃ p, rTakes l x s = p := ⟨_, rfl⟩
 rw [hp] at HTK HN HX
 clear h hp
 cases b
 ·go_enter Tryz.func24, Tryz.ntmps24
  go_wp2_with fail
  refine HTK.out.mono ?_
  rintro e w2 ⟨rfl, hr2, hs2⟩
  have H2 := Lib.hid (⟨hr2, hs2⟩ : _ ∧ _)
  clear hr2 hs2
  go_wp2_with fail
  refine (HN.out w2 H2.out.1 H2.out.2).mono ?_
  rintro e w3 ⟨rfl, hr3, hs3⟩
  have H3 := Lib.hid (⟨hr3, hs3⟩ : _ ∧ _)
  clear hr3 hs3
  go_wp2_with fail
  refine bodyPost_ret (v := .tuple #[]) (by simp [results, Tryz.results24, go_sem]) rfl ⟨rfl, ?_, H2.out.2.then_ H3.out.2⟩
  rw [HX.out]
  exact H3.out.1
 ·go_enter Tryz.func24, Tryz.ntmps24
  go_wp2_with fail
  refine HTK.out.mono ?_
  rintro e w2 ⟨rfl, hr2, hs2⟩
  have H2 := Lib.hid (⟨hr2, hs2⟩ : _ ∧ _)
  clear hr2 hs2
  go_wp2_with fail
  refine bodyPost_ret (v := .tuple #[]) (by simp [results, Tryz.results24, go_sem]) rfl ⟨rfl, ?_, H2.out.2⟩
  rw [HX.out]
  exact H2.out.1
end
end Go.Proofs.YtgcfjkfipkfijaaGreatDoor
namespace Go.Proofs.YtgcfjkfipkfijaaGreatDoor
open Go Go.RowKit Go.Lib
def StrR (w : World) (a : Option Addr) (ss : List ByteArray) : Prop :=
 ss.length ≤ 9223372036854775807 ∧ (0 < ss.length → ∃ b off, a = some ⟨b, off, none⟩ ∧ ∀ j, j < ss.length → w.cell? ⟨b, off + j, none⟩ = some (.string (ss.getD j ByteArray.empty)))
theorem StrR.nil (w : World) (a : Option Addr) : StrR w a [] := ⟨by simp, fun h => absurd h (by simp)⟩
theorem StrR.keep {w w' : World} {a : Option Addr} {ss : List ByteArray} {M : List Nat} (h : StrR w a ss) (hs : Same M w w') (hM : ∀ b off, a = some ⟨b, off, none⟩ → b ∉ M) : StrR w' a ss :=
 ⟨h.1, fun hn => by
  obtain ⟨b, off, e, hc⟩ := h.2 hn
  exact ⟨b, off, e, fun j hj => hs.cell (hM b off e) (hc j hj)⟩⟩
theorem StrR.step {w w' : World} {a : Option Addr} {ss : List ByteArray} (h : StrR w a ss) (hs : Below w.heap.size w w') : StrR w' a ss := h.keep (M := []) (Same.of_below hs) (fun _ _ _ => by simp)
theorem contains_any {w : World} {a : Option Addr} {ss : List ByteArray} (h : StrR w a ss) (c : Nat) (x : ByteArray) :
  Calls Tryz.prog 53 #[.slice a ss.length c, .string x] w fun e w' => e = .returned (.bool (inB x ss)) ∧ w = w' := by
 cases ss with
 | nil => exact (Tryz.slices_Contains_string_empty a c x w).mono (fun _ _ h => ⟨h.1, h.2.symm⟩)
 | cons y ys =>
  obtain ⟨b, off, rfl, hc⟩ := h.2 (by simp)
  have h1 := Tryz.slices_Contains_string b off (y :: ys).length c (y :: ys) x w (Nat.le_refl _) h.1 hc
  rw [contains_inB, List.take_of_length_le (Nat.le_refl _)] at h1
  exact h1.mono (fun _ _ h => ⟨h.1, h.2.symm⟩)
theorem size0 {s : ByteArray} (h : s.size = 0) : s = ⟨#[]⟩ := by
 obtain ⟨d⟩ := s
 have : d = #[] := Array.eq_empty_of_size_eq_zero h
 rw [this]
section
variable {l : List Tok} {g c : Nat} {A : Option Addr} {s : RS} {w : World}
set_option maxHeartbeats 4000000 in
theorem rname_any (T : Toks l) (h : Rdr l g A c w s) {a : Option Addr} {cc : Nat} {had : List ByteArray} (hh : StrR w a had) :
  Calls Tryz.prog 25 #[.pointer (some ⟨g, 0, none⟩), .slice a had.length cc] w (Stp g A l.length c (.string (rName l had s).1) (rName l had s).2 w) := by
 have HOK := Lib.hid (fun W (hb : Below w.heap.size w W) => ok_any (h.step hb))
 have HTK := Lib.hid (token_any' h)
 have HFL := Lib.hid (fun W (hb : Below w.heap.size w W) x => rfail_any (h.step hb) x)
 have HCN := Lib.hid (fun W (hb : Below w.heap.size w W) x => contains_any (hh.step hb) cc x)
 have H := Lib.hid h
 obtain ⟨t, ht⟩ : ∃ t, tokAt l s.at_ = t := ⟨_, rfl⟩
 have HKY := Lib.hid (fun W => key_any t W (by have := T.text s.at_; rw [ht] at this; omega))
 have hin := h.inr.2.1
 have hin0 := h.inr.1
 have hlr := h.row.1
 have hadd : IntKind.i64.wrap (s.at_ + 1) = s.at_ + 1 := IntWalk.i64_in _ (by omega)
 have HX : Hid (rName l had s = if s.bad ≠ 0 then (⟨#[]⟩, s) else if (t.kind == 1 && (keyP t).size == 0) = false then (⟨#[]⟩, rFail 11 s) else if inB t.text had = true then (⟨#[]⟩, rFail 5 s) else (t.text, rPass s)) := Lib.hid (by unfold rName rNamed; rw [ht])
 rw [ht] at HTK
 have hlt := h.lt
 clear h hh ht
 by_cases hb : s.bad = 0
 ·have hbb : (s.bad == 0) = true := beq_iff_eq.2 hb
  have h1 := HX.out
  rw [if_neg (by simpa using hb)] at h1
  rw [hbb] at HOK
  clear HX hb hbb
  by_cases hk : t.kind = 1
  ·have hkb : (t.kind != 1) = false := by rw [hk]; rfl
   rw [hk] at h1
   by_cases hy : (keyP t).size = 0
   ·have e0 := size0 hy
    rw [hy] at h1
    rw [if_neg (by decide)] at h1
    rw [e0] at HKY
    cases hi : inB t.text had with
    | true =>
     have HI := Lib.hid hi
     rw [hi, if_pos rfl] at h1
     have HX := Lib.hid h1
     clear h1 hi hk hy e0
     go_enter Tryz.func25, Tryz.ntmps25
     go_wp2_with fail
     refine HTK.out.mono ?_
     rintro e w2 ⟨rfl, hb2⟩
     have HB2 := Lib.hid (hb2.alloc hb2.size (.cells #[.int .i64 t.kind, .string t.text, .int .i64 t.n, .int .i64 t.at_] 60 (0, 0)))
     have HN2 := Lib.hid (heap_alloc_new w2 (.cells #[.int .i64 t.kind, .string t.text, .int .i64 t.n, .int .i64 t.at_] 60 (0, 0)))
     obtain ⟨⟨k0, k1, k2, k3⟩, _⟩ := blk4 HN2.out
     clear hb2
     go_wp2_with fail
     refine (HOK.out _ HB2.out).mono ?_
     rintro e w3 ⟨rfl, rfl⟩
     go_wp2_with fail
     refine (HKY.out _).mono ?_
     rintro e w4 ⟨rfl, hb4⟩
     have HB4 := Lib.hid (HB2.out.trans (hb4.mono HB2.out.size))
     have hn4 := (hb4.block w2.heap.size (by simp)).trans HN2.out
     obtain ⟨⟨m0, m1, m2, m3⟩, _⟩ := blk4 hn4
     clear hb4 hn4
     go_wp2_with fail
     refine (HCN.out w4 HB4.out _).mono ?_
     rw [HI.out]
     rintro e w5 ⟨rfl, rfl⟩
     go_wp2_with fail
     refine (HFL.out _ HB4.out _).mono ?_
     rintro e w5 ⟨rfl, hr5, hs5⟩
     have H5 := Lib.hid (⟨hr5, hs5⟩ : _ ∧ _)
     clear hr5 hs5
     go_wp2_with fail
     go_ret
     exact ⟨ret_str (congrArg Prod.fst HX.out).symm, by rw [HX.out]; exact H5.out.1, (Same.of_below HB4.out).then_ H5.out.2⟩
    | false =>
     have HI := Lib.hid hi
     rw [hi, if_neg (by decide)] at h1
     have HX := Lib.hid h1
     clear h1 hi hk hy e0
     go_enter Tryz.func25, Tryz.ntmps25
     go_wp2_with fail
     refine HTK.out.mono ?_
     rintro e w2 ⟨rfl, hb2⟩
     have HB2 := Lib.hid (hb2.alloc hb2.size (.cells #[.int .i64 t.kind, .string t.text, .int .i64 t.n, .int .i64 t.at_] 60 (0, 0)))
     have HN2 := Lib.hid (heap_alloc_new w2 (.cells #[.int .i64 t.kind, .string t.text, .int .i64 t.n, .int .i64 t.at_] 60 (0, 0)))
     obtain ⟨⟨k0, k1, k2, k3⟩, _⟩ := blk4 HN2.out
     have hg2 : g ≠ w2.heap.size := by have := hb2.size; omega
     clear hb2
     go_wp2_with fail
     refine (HOK.out _ HB2.out).mono ?_
     rintro e w3 ⟨rfl, rfl⟩
     go_wp2_with fail
     refine (HKY.out _).mono ?_
     rintro e w4 ⟨rfl, hb4⟩
     have HB4 := Lib.hid (HB2.out.trans (hb4.mono HB2.out.size))
     have hn4 := (hb4.block w2.heap.size (by simp)).trans HN2.out
     obtain ⟨⟨m0, m1, m2, m3⟩, _⟩ := blk4 hn4
     have H4 := Lib.hid (H.out.step HB4.out)
     obtain ⟨⟨c0, c1, c2, c3⟩, f0, f1, f2, f3⟩ := blk4 H4.out.rd
     clear hb4 hn4
     go_wp2_with fail
     refine (HCN.out w4 HB4.out _).mono ?_
     rw [HI.out]
     rintro e w5 ⟨rfl, rfl⟩
     go_wp2_with fail
     go_ret
     exact ⟨ret_str (congrArg Prod.fst HX.out).symm, by rw [HX.out]; exact H4.out.set 1 _, (Same.of_below HB4.out).setCell (.inl (by simp)) _⟩
   ·have e0 := isEmpty_of hy
    rw [if_pos (by rw [beq_eq_false_iff_ne.2 hy]; rfl)] at h1
    have HX := Lib.hid h1
    obtain ⟨y, hyy⟩ : ∃ y, keyP t = y := ⟨_, rfl⟩
    rw [hyy] at HKY e0
    have e1 : (!y.toList.isEmpty) = true := by rw [e0]; rfl
    have e2 : (y.toList = []) = False := by
     rw [eq_iff_iff]
     exact ⟨fun hc => by rw [hc] at e0; exact absurd e0 (by decide), False.elim⟩
    clear h1 hk hy hyy
    go_enter Tryz.func25, Tryz.ntmps25
    go_wp2_with fail
    refine HTK.out.mono ?_
    rintro e w2 ⟨rfl, hb2⟩
    have HB2 := Lib.hid (hb2.alloc hb2.size (.cells #[.int .i64 t.kind, .string t.text, .int .i64 t.n, .int .i64 t.at_] 60 (0, 0)))
    have HN2 := Lib.hid (heap_alloc_new w2 (.cells #[.int .i64 t.kind, .string t.text, .int .i64 t.n, .int .i64 t.at_] 60 (0, 0)))
    obtain ⟨⟨k0, k1, k2, k3⟩, _⟩ := blk4 HN2.out
    clear hb2
    go_wp2_with fail
    refine (HOK.out _ HB2.out).mono ?_
    rintro e w3 ⟨rfl, rfl⟩
    go_wp2_with fail
    refine (HKY.out _).mono ?_
    rintro e w4 ⟨rfl, hb4⟩
    have HB4 := Lib.hid (HB2.out.trans (hb4.mono HB2.out.size))
    clear hb4
    go_wp2_with fail
    refine (HFL.out _ HB4.out _).mono ?_
    rintro e w5 ⟨rfl, hr5, hs5⟩
    have H5 := Lib.hid (⟨hr5, hs5⟩ : _ ∧ _)
    clear hr5 hs5
    go_wp2_with fail
    go_ret
    exact ⟨ret_str (congrArg Prod.fst HX.out).symm, by rw [HX.out]; exact H5.out.1, (Same.of_below HB4.out).then_ H5.out.2⟩
  ·have hkb : (t.kind != 1) = true := bne_iff_ne.2 hk
   rw [if_pos (by rw [beq_eq_false_iff_ne.2 hk]; rfl)] at h1
   have HX := Lib.hid h1
   clear h1 hk
   go_enter Tryz.func25, Tryz.ntmps25
   go_wp2_with fail
   refine HTK.out.mono ?_
   rintro e w2 ⟨rfl, hb2⟩
   have HB2 := Lib.hid (hb2.alloc hb2.size (.cells #[.int .i64 t.kind, .string t.text, .int .i64 t.n, .int .i64 t.at_] 60 (0, 0)))
   have HN2 := Lib.hid (heap_alloc_new w2 (.cells #[.int .i64 t.kind, .string t.text, .int .i64 t.n, .int .i64 t.at_] 60 (0, 0)))
   obtain ⟨⟨k0, k1, k2, k3⟩, _⟩ := blk4 HN2.out
   clear hb2
   go_wp2_with fail
   refine (HOK.out _ HB2.out).mono ?_
   rintro e w3 ⟨rfl, rfl⟩
   go_wp2_with fail
   refine (HFL.out _ HB2.out _).mono ?_
   rintro e w5 ⟨rfl, hr5, hs5⟩
   have H5 := Lib.hid (⟨hr5, hs5⟩ : _ ∧ _)
   clear hr5 hs5
   go_wp2_with fail
   go_ret
   exact ⟨ret_str (congrArg Prod.fst HX.out).symm, by rw [HX.out]; exact H5.out.1, (Same.of_below HB2.out).then_ H5.out.2⟩
 ·have hbb : (s.bad == 0) = false := beq_eq_false_iff_ne.2 hb
  have h1 := HX.out
  rw [if_pos (by simpa using hb)] at h1
  rw [hbb] at HOK
  have HX := Lib.hid h1
  clear h1 hb hbb
  go_enter Tryz.func25, Tryz.ntmps25
  go_wp2_with fail
  refine HTK.out.mono ?_
  rintro e w2 ⟨rfl, hb2⟩
  have HB2 := Lib.hid (hb2.alloc hb2.size (.cells #[.int .i64 t.kind, .string t.text, .int .i64 t.n, .int .i64 t.at_] 60 (0, 0)))
  clear hb2
  go_wp2_with fail
  refine (HOK.out _ HB2.out).mono ?_
  rintro e w3 ⟨rfl, rfl⟩
  go_wp2_with fail
  go_ret
  exact ⟨ret_str (congrArg Prod.fst HX.out).symm, by rw [HX.out]; exact (H.out.step HB2.out).rd, Same.of_below HB2.out⟩
set_option maxHeartbeats 2000000 in
theorem most_any (T : Toks l) (h : Rdr l g A c w s) (n most : Int) :
  Calls Tryz.prog 83 #[.pointer (some ⟨g, 0, none⟩), .int .i64 n, .int .i64 most] w (Stp g A l.length c (.tuple #[]) (rMost l n most s) w) := by
 have HTK := Lib.hid (token_any' h)
 have HFL := Lib.hid (fun W (hb : Below w.heap.size w W) x => rfail_any (h.step hb) x)
 have H := Lib.hid h
 obtain ⟨t, ht⟩ : ∃ t, tokAt l s.at_ = t := ⟨_, rfl⟩
 have HKY := Lib.hid (fun W => key_any t W (by have := T.text s.at_; rw [ht] at this; omega))
 have h1 : rMost l n most s = if n = most ∧ (t.kind == 1 && (keyP t).size == 0) = true then rFail 2 s else s := by unfold rMost rNamed; rw [ht]
 rw [ht] at HTK
 clear h ht
 by_cases hn : n = most
 ·have hnb : (n == most) = true := beq_iff_eq.2 hn
  by_cases hk : t.kind = 1
  ·have hkb : (t.kind == 1) = true := beq_iff_eq.2 hk
   by_cases hy : (keyP t).size = 0
   ·have e0 := size0 hy
    rw [if_pos ⟨hn, by rw [hkb, hy]; rfl⟩] at h1
    have HX := Lib.hid h1
    rw [e0] at HKY
    clear h1 hk hy e0 hn
    go_enter Tryz.func83, Tryz.ntmps83
    go_wp2_with fail
    refine HTK.out.mono ?_
    rintro e w2 ⟨rfl, hb2⟩
    have HB2 := Lib.hid (hb2.alloc hb2.size (.cells #[.int .i64 t.kind, .string t.text, .int .i64 t.n, .int .i64 t.at_] 60 (0, 0)))
    obtain ⟨⟨k0, k1, k2, k3⟩, _⟩ := blk4 (heap_alloc_new w2 (.cells #[.int .i64 t.kind, .string t.text, .int .i64 t.n, .int .i64 t.at_] 60 (0, 0)))
    clear hb2
    go_wp2_with fail
    refine (HKY.out _).mono ?_
    rintro e w4 ⟨rfl, hb4⟩
    have HB4 := Lib.hid (HB2.out.trans (hb4.mono HB2.out.size))
    clear hb4
    go_wp2_with fail
    refine (HFL.out _ HB4.out _).mono ?_
    rintro e w5 ⟨rfl, hr5, hs5⟩
    have H5 := Lib.hid (⟨hr5, hs5⟩ : _ ∧ _)
    clear hr5 hs5
    go_wp2_with fail
    refine bodyPost_ret (v := .tuple #[]) (by simp [results, Tryz.results83, go_sem]) rfl ⟨rfl, by rw [HX.out]; exact H5.out.1, (Same.of_below HB4.out).then_ H5.out.2⟩
   ·have e0 := isEmpty_of hy
    rw [if_neg (by rw [beq_eq_false_iff_ne.2 hy, Bool.and_false]; simp)] at h1
    have HX := Lib.hid h1
    obtain ⟨y, hyy⟩ : ∃ y, keyP t = y := ⟨_, rfl⟩
    rw [hyy] at HKY e0
    clear h1 hk hy hyy hn
    go_enter Tryz.func83, Tryz.ntmps83
    go_wp2_with fail
    refine HTK.out.mono ?_
    rintro e w2 ⟨rfl, hb2⟩
    have HB2 := Lib.hid (hb2.alloc hb2.size (.cells #[.int .i64 t.kind, .string t.text, .int .i64 t.n, .int .i64 t.at_] 60 (0, 0)))
    obtain ⟨⟨k0, k1, k2, k3⟩, _⟩ := blk4 (heap_alloc_new w2 (.cells #[.int .i64 t.kind, .string t.text, .int .i64 t.n, .int .i64 t.at_] 60 (0, 0)))
    clear hb2
    go_wp2_with fail
    refine (HKY.out _).mono ?_
    rintro e w4 ⟨rfl, hb4⟩
    have HB4 := Lib.hid (HB2.out.trans (hb4.mono HB2.out.size))
    clear hb4
    go_wp2_with fail
    refine bodyPost_ret (v := .tuple #[]) (by simp [results, Tryz.results83, go_sem]) rfl ⟨rfl, by rw [HX.out]; exact (H.out.step HB4.out).rd, Same.of_below HB4.out⟩
  ·have hkb : (t.kind == 1) = false := beq_eq_false_iff_ne.2 hk
   rw [if_neg (by rw [hkb]; simp)] at h1
   have HX := Lib.hid h1
   clear h1 hk hn
   go_enter Tryz.func83, Tryz.ntmps83
   go_wp2_with fail
   refine HTK.out.mono ?_
   rintro e w2 ⟨rfl, hb2⟩
   have HB2 := Lib.hid (hb2.alloc hb2.size (.cells #[.int .i64 t.kind, .string t.text, .int .i64 t.n, .int .i64 t.at_] 60 (0, 0)))
   obtain ⟨⟨k0, k1, k2, k3⟩, _⟩ := blk4 (heap_alloc_new w2 (.cells #[.int .i64 t.kind, .string t.text, .int .i64 t.n, .int .i64 t.at_] 60 (0, 0)))
   clear hb2
   go_wp2_with fail
   refine bodyPost_ret (v := .tuple #[]) (by simp [results, Tryz.results83, go_sem]) rfl ⟨rfl, by rw [HX.out]; exact (H.out.step HB2.out).rd, Same.of_below HB2.out⟩
 ·have hnb : (n == most) = false := beq_eq_false_iff_ne.2 hn
  rw [if_neg (fun hc => hn hc.1)] at h1
  have HX := Lib.hid h1
  clear h1 hn
  go_enter Tryz.func83, Tryz.ntmps83
  go_wp2_with fail
  refine HTK.out.mono ?_
  rintro e w2 ⟨rfl, hb2⟩
  have HB2 := Lib.hid (hb2.alloc hb2.size (.cells #[.int .i64 t.kind, .string t.text, .int .i64 t.n, .int .i64 t.at_] 60 (0, 0)))
  clear hb2
  go_wp2_with fail
  refine bodyPost_ret (v := .tuple #[]) (by simp [results, Tryz.results83, go_sem]) rfl ⟨rfl, by rw [HX.out]; exact (H.out.step HB2.out).rd, Same.of_below HB2.out⟩
theorem begin_any (h : Rdr l g A c w s) (n : Int) (hn : 1 ≤ n) (hn3 : n ≤ 3) :
  Calls Tryz.prog 82 #[.pointer (some ⟨g, 0, none⟩), .int .i64 n] w (Stp g A l.length c (.tuple #[]) (rBegin n s) w) := by
 obtain ⟨⟨c0, c1, c2, c3⟩, f0, f1, f2, f3⟩ := blk4 h.rd
 have h0 := h.inr.2.2.1
 have h27 := h.inr.2.2.2.1
 have hadd : IntKind.i64.wrap (s.nodes + n) = s.nodes + n := IntWalk.i64_in _ (by omega)
 have HR : Hid (RdP (w.setCell ⟨g, 3, none⟩ (.int .i64 (s.nodes + n))) g A l.length c { s with nodes := s.nodes + n }) := h.set 3 _
 have HFL := Lib.hid (rfail_rd HR.out 2)
 have H := Lib.hid h
 clear h
 by_cases hm : 24 < s.nodes + n
 ·have hmb : decide (24 < s.nodes + n) = true := decide_eq_true hm
  have HX : Hid (rBegin n s = rFail 2 { s with nodes := s.nodes + n }) := Lib.hid (by unfold rBegin; rw [if_pos hm])
  clear hm
  go_enter Tryz.func82, Tryz.ntmps82
  go_wp2_with fail
  refine HFL.out.mono ?_
  rintro e w5 ⟨rfl, hr5, hs5⟩
  have H5 := Lib.hid (⟨hr5, hs5⟩ : _ ∧ _)
  clear hr5 hs5
  go_wp2_with fail
  refine bodyPost_ret (v := .tuple #[]) (by simp [results, Tryz.results82, go_sem]) rfl ⟨rfl, by rw [HX.out]; exact H5.out.1, ((Same.refl [g] w).setCell (.inl (by simp)) _).then_ H5.out.2⟩
 ·have hmb : decide (24 < s.nodes + n) = false := decide_eq_false hm
  have HX : Hid (rBegin n s = { s with nodes := s.nodes + n }) := Lib.hid (by unfold rBegin; rw [if_neg hm])
  clear hm
  go_enter Tryz.func82, Tryz.ntmps82
  go_wp2_with fail
  refine bodyPost_ret (v := .tuple #[]) (by simp [results, Tryz.results82, go_sem]) rfl ⟨rfl, by rw [HX.out]; exact HR.out, (Same.refl [g] w).setCell (.inl (by simp)) _⟩
end
end Go.Proofs.YtgcfjkfipkfijaaGreatDoor
namespace Go.Proofs.YtgcfjkfipkfijaaGreatDoor
open Go Go.RowKit Go.Lib
def RexPost (g : Nat) (A : Option Addr) (n c : Nat) (p : Ex × RS) (w : World) (r : Ending) (w' : World) : Prop :=
 ∃ B d, r = .returned (exV p.1 B d) ∧ ExF (fun k => k < w.heap.size) w' p.1 B d ∧ RdP w' g A n c p.2 ∧ Same [g] w w'
abbrev zCell : Obj := .cells #[.int .i64 0, .int .i64 0, .string ⟨#[]⟩, .slice none 0 0] 41 (0, 0)
section
variable {l : List Tok} {g c : Nat} {A : Option Addr} {s : RS} {w : World}
theorem rex_end {n K b d k2 : Nat} {B : Option Addr} {e : Ex} {W : World} (hx : ExF (fun k => k < b ∨ k = k2) W e B d) (hr : RdP W g A n c s) (hw : Below w.heap.size w W) (hK : w.heap.size = K) (hg : g < K) (hKb : K < b) (tp te : Int) (v0 v1 v2 v3 : Value) :
  RexPost g A n c (e, ⟨tp, te, s.nodes⟩) w (.returned (exV e B d)) ((((((W.setCell ⟨g, 1, none⟩ (.int .i64 tp)).setCell ⟨g, 2, none⟩ (.int .i64 te)).setCell ⟨K, 0, none⟩ v0).setCell ⟨K, 1, none⟩ v1).setCell ⟨K, 2, none⟩ v2).setCell ⟨K, 3, none⟩ v3) := by
 have h2 : Same [g, K] W ((W.setCell ⟨g, 1, none⟩ (.int .i64 tp)).setCell ⟨g, 2, none⟩ (.int .i64 te)) := ((Same.refl [g, K] W).setCell (.inl (by simp)) _).setCell (.inl (by simp)) _
 have h6 := h2.trans (same_set4 ((W.setCell ⟨g, 1, none⟩ (.int .i64 tp)).setCell ⟨g, 2, none⟩ (.int .i64 te)) K v0 v1 v2 v3) (fun x hx => by simp at hx; subst hx; simp)
 have hs4 := same_set4 ((W.setCell ⟨g, 1, none⟩ (.int .i64 tp)).setCell ⟨g, 2, none⟩ (.int .i64 te)) K v0 v1 v2 v3
 refine ⟨B, d, rfl, (hx.keep h6 (fun k hk => by simp at hk; omega)).more (fun k hk => .inl (.inl (by omega))), hs4.heap (by simp; omega) (blk_set (blk_set hr 1 _) 2 _), ?_⟩
 exact ((Same.of_below (M := [g]) hw).trans (((Same.refl [g] W).setCell (.inl (by simp)) _).setCell (.inl (by simp)) _) (fun x hx => .inl hx)).trans hs4 (fun x hx => by simp at hx; exact .inr (by omega))
set_option maxHeartbeats 4000000 in
theorem rexpr_any (_T : Toks l) (h : Rdr l g A c w s) : Calls Tryz.prog 84 #[.pointer (some ⟨g, 0, none⟩)] w (RexPost g A l.length c (rExpr l s) w) := by
 obtain ⟨w1, hw1⟩ : ∃ w1, w.alloc zCell = w1 := ⟨_, rfl⟩
 have hb1 : Below w.heap.size w w1 := hw1 ▸ (Below.refl _ _).alloc (Nat.le_refl _) _
 have hz1 : w1.heap[w.heap.size]? = some zCell := hw1 ▸ heap_alloc_new _ _
 have HOK := Lib.hid (ok_any (h.step hb1))
 have H1 := Lib.hid (h.step hb1)
 obtain ⟨K, hK⟩ : ∃ K, w.heap.size = K := ⟨_, rfl⟩
 have hg := h.lt
 have HTA := Lib.hid (fun W (hW : Below w1.heap.size w1 W) => take_any l A c s.at_ W ((h.row.less (M' := []) (fun k hk => by simp at hk)).keep (Same.of_below (M := []) (hb1.trans (hW.mono hb1.size)))) h.cap (by have := h.inr.1; omega))
 rw [hK] at hz1 hg
 have HB1 := Lib.hid (⟨hb1, hz1⟩ : _ ∧ _)
 have HW1 := Lib.hid hw1
 have hk1 : K < w1.heap.size := blk_lt hz1
 obtain ⟨⟨z0, z1, z2, z3⟩, f0, f1, f2, f3⟩ := blk4 hz1
 obtain ⟨⟨c0, c1, c2, c3⟩, e0, e1, e2, e3⟩ := blk4 H1.out.rd
 have HX : Hid (rExpr l s = if s.bad ≠ 0 then (zEx, s) else ((takeP l s.at_).1, ⟨(takeP l s.at_).2.2, (takeP l s.at_).2.1, s.nodes⟩)) := rfl
 have HK := Lib.hid hK
 have hg1 : g < w1.heap.size := by omega
 clear hw1 hb1 hz1 h hK
 by_cases hb : s.bad = 0
 ·have hbb : (s.bad == 0) = true := beq_iff_eq.2 hb
  have h1 := HX.out
  rw [if_neg (by simpa using hb)] at h1
  rw [hbb] at HOK
  obtain ⟨⟨e, te, tp⟩, hp⟩ : ∃ p, takeP l s.at_ = p := ⟨_, rfl⟩
  rw [hp] at h1 HTA
  have HX := Lib.hid h1
  clear h1 hb hbb hp
  go_enter Tryz.func84, Tryz.ntmps84
  go_wp2_with fail
  rw [HW1.out, HK.out]
  refine HOK.out.mono ?_
  rintro e w2 ⟨rfl, rfl⟩
  go_wp2_with fail
  go_cut [3, 4, 5] (fun s3 s4 s5 wx => ∃ k2 B d, s3 = .pointer (some ⟨k2, 0, none⟩) ∧ s4 = .int .i64 te ∧ s5 = .int .i64 tp ∧ w1.heap.size ≤ k2 ∧ wx.heap[k2]? = some (.cells #[.int .i64 e.op, .int .i64 e.n, .string e.name, .slice B e.kids.length d] 41 (0, 0)) ∧
   ExF (fun k => k < w1.heap.size ∨ k = k2) wx e B d ∧ Below w1.heap.size w1 wx)
  case first =>
   go_region_with (first
    | (go_at_call 108; refine (HTA.out _ (Below.refl _ _).drew).mono ?_; rintro r w3 ⟨B, d, rfl, hx3, hb3⟩; have H3 := Lib.hid (⟨hx3, hb3⟩ : _ ∧ _); clear hx3 hb3)
    | (go_at_call 108; refine (HTA.out _ ((Below.refl _ _).alloc (Nat.le_refl _) _).drew).mono ?_; rintro r w3 ⟨B, d, rfl, hx3, hb3⟩; have hn3 := (hb3.block w1.heap.size (by simp)).trans (heap_alloc_new w1 zCell); obtain ⟨⟨n0, n1, n2, n3⟩, m0, m1, m2, m3⟩ := blk4 hn3; have H3 := Lib.hid (⟨hx3, hb3, hn3⟩ : _ ∧ _ ∧ _); clear hx3 hb3 hn3))
   all_goals
    go_wp2_with fail
    go_meet
    first
     | exact ⟨w1.heap.size, B, d, rfl, rfl, rfl, Nat.le_refl _, blk_set4 H3.out.2.2 _ _ _ _, (H3.out.1.keep (same_set4 w3 w1.heap.size _ _ _ _) (fun k hk => by simp at hk ⊢; omega)).more (fun k hk => .inl (by simp; omega)),
       below_set4' ((((Below.refl w1.heap.size w1).alloc (Nat.le_refl _) _).drew).trans (H3.out.2.1.mono (by simp))) (Nat.le_refl _) _ _ _ _⟩
     | exact ⟨w3.heap.size, B, d, rfl, rfl, rfl, H3.out.2.size, heap_alloc_new _ _, (H3.out.1.more (fun k hk => hk.elim .inl (fun e => .inr (by omega)))).below ((Below.refl _ _).alloc (Nat.le_refl _) _), ((Below.refl w1.heap.size w1).drew.trans H3.out.2).alloc H3.out.2.size _⟩
  case rest =>
   obtain ⟨k2, B, d, rfl, rfl, rfl, hk2, hq, hx, hbw⟩ := hcut
   have hr := (hbw.block g hg1).trans H1.out.rd
   have hz := (hbw.block K hk1).trans HB1.out.2
   have H4 := Lib.hid (⟨hx, hbw, hr, hz⟩ : _ ∧ _ ∧ _ ∧ _)
   have hlq := blk_lt hq
   clear z0 z1 z2 z3 f0 f1 f2 f3 c0 c1 c2 c3 e0 e1 e2 e3
   obtain ⟨⟨q0, q1, q2, q3⟩, _⟩ := blk4 hq
   obtain ⟨⟨z0, z1, z2, z3⟩, f0, f1, f2, f3⟩ := blk4 hz
   obtain ⟨⟨c0, c1, c2, c3⟩, e0, e1, e2, e3⟩ := blk4 hr
   have hne1 : k2 ≠ g := by omega
   have hne2 : k2 ≠ K := by omega
   have hne3 : K ≠ g := by omega
   clear hx hbw hr hz hq
   go_wp2_with fail
   refine bodyPost_ret (v := exV e B d) (by simp [results, Tryz.results84, go_sem, *]) rfl ?_
   rw [HX.out]
   exact rex_end H4.out.1 H4.out.2.2.1 (HB1.out.1.trans (H4.out.2.1.mono HB1.out.1.size)) HK.out hg hk1 _ _ _ _ _ _
 ·have hbb : (s.bad == 0) = false := beq_eq_false_iff_ne.2 hb
  have h1 := HX.out
  rw [if_pos (by simpa using hb)] at h1
  rw [hbb] at HOK
  have HX := Lib.hid h1
  clear h1 hb hbb
  go_enter Tryz.func84, Tryz.ntmps84
  go_wp2_with fail
  rw [HW1.out, HK.out]
  refine HOK.out.mono ?_
  rintro e w2 ⟨rfl, rfl⟩
  go_wp2_with fail
  refine bodyPost_ret (v := exV zEx none 0) (by simp [results, Tryz.results84, go_sem, *] <;> exact ⟨rfl, rfl, rfl, rfl⟩) rfl ?_
  rw [HX.out]
  have h4 := same_set4 w1 K (.int .i64 0) (.int .i64 0) (.string ⟨#[]⟩) (.slice none 0 0)
  exact ⟨none, 0, rfl, ExF.leaf rfl, h4.heap (by simp; omega) H1.out.rd, (Same.of_below HB1.out.1).trans h4 (fun x hx => by simp at hx; exact .inr (by have := HK.out; omega))⟩
end
end Go.Proofs.YtgcfjkfipkfijaaGreatDoor
