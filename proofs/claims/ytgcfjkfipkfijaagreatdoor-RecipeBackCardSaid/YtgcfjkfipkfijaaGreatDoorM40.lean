/- Plain law: how the nodes of a recipe that is read hang together. No program in sight. -/
import Derived.Test.YtgcfjkfipkfijaaGreatDoorMF
import Derived.Test.YtgcfjkfipkfijaaGreatDoorMD
namespace Go.Proofs.YtgcfjkfipkfijaaGreatDoor
open Go Go.RowKit Go.Lib

theorem cP_parts (p : Pc) : cP p = 1 + cPs (partsP p) := by
  cases p with
  | row k us kids => rw [cP]; rfl
  | choice e a b => simp only [cP, cPs, partsP]; omega
  | step nm al => simp only [cP, cPs, partsP]
theorem cP_pos (p : Pc) : 1 ≤ cP p := by rw [cP_parts]; omega
theorem numPs_len (ps : List Pc) (b : Int) : (numPs b ps).1.length = cPs ps := (numP_len (SizeOf.sizeOf ps + 1)).2 ps (by omega) b
/-- All numbers of parts. -/
def allK (l : List Nd) : List Int := l.flatMap (·.kids)
theorem allK_app (a b : List Nd) : allK (a ++ b) = allK a ++ allK b := by unfold allK; rw [List.flatMap_append]
theorem cnt_row {N : Nat} (h : ∀ p, cP p ≤ N → ∀ b j : Int, (allK (numP b p)).count j = if b < j ∧ j < b + cP p then 1 else 0) :
    ∀ ps, cPs ps ≤ N → ∀ b j : Int, (allK (numPs b ps).1).count j + (numPs b ps).2.count j = if b ≤ j ∧ j < b + cPs ps then 1 else 0
  | [], _, b, j => by
    rw [numPs_nil, cPs, if_neg (by omega)]
    rfl
  | p :: ps, hN, b, j => by
    rw [cPs] at hN
    have h1 := h p (by omega) b j
    have h2 := cnt_row h ps (by omega) (b + (numP b p).length) j
    have h3 := cP_pos p
    rw [numPs_cons, cPs]
    simp only [allK_app, List.count_append, List.count_cons]
    rw [numP_cnt] at h2 ⊢
    by_cases hb : b = j
    · subst hb
      rw [if_neg (by omega)] at h1 h2
      rw [if_pos (c := b ≤ b ∧ b < b + ((cP p + cPs ps : Nat) : Int)) ⟨Int.le_refl _, by omega⟩]
      simp only [beq_self_eq_true, if_true]
      omega
    · rw [if_neg (c := (b == j) = true) (by simpa using hb)]
      split at h1
      · rw [if_neg (by omega)] at h2
        rw [if_pos (by omega)]
        omega
      · split at h2
        · rw [if_pos (by omega)]
          omega
        · rw [if_neg (by omega)]
          omega
/-- Each number but the first is a part's just once. -/
theorem cnt_one (N : Nat) : ∀ p, cP p ≤ N → ∀ b j : Int, (allK (numP b p)).count j = if b < j ∧ j < b + cP p then 1 else 0 := by
  induction N with
  | zero => intro p h; have := cP_pos p; omega
  | succ N ih =>
    intro p h b j
    rw [cP_parts] at h ⊢
    have h1 := cnt_row ih (partsP p) (by omega) (b + 1) j
    rw [numP_eq]
    have e : allK ({ headP p with kids := (numPs (b + 1) (partsP p)).2 } :: (numPs (b + 1) (partsP p)).1) = (numPs (b + 1) (partsP p)).2 ++ allK (numPs (b + 1) (partsP p)).1 := by unfold allK; rw [List.flatMap_cons]
    rw [e, List.count_append, Nat.add_comm, h1]
    split
    · rw [if_pos (by omega)]
    · rw [if_neg (by omega)]
/-- Numbers that rise, between two. -/
def Asc (hi : Int) : Int → List Int → Prop
  | _, [] => True
  | lo, k :: ks => lo < k ∧ k < hi ∧ Asc hi k ks
theorem numPs_asc (hi : Int) : ∀ (ps : List Pc) (lo b : Int), lo < b → b + cPs ps ≤ hi → Asc hi lo (numPs b ps).2
  | [], lo, b, _, _ => by rw [numPs_nil]; trivial
  | p :: ps, lo, b, h1, h2 => by
    rw [numPs_cons]
    rw [cPs] at h2
    have := cP_pos p
    exact ⟨h1, by omega, numPs_asc hi ps b _ (by rw [numP_cnt]; omega) (by rw [numP_cnt]; omega)⟩
mutual
/-- Pieces of the kinds that a recipe has. -/
def PcK : Pc → Prop
  | .row k us kids => ((k = 0 ∨ k = 1) ∧ us = [] ∨ k = 2 ∧ us ≠ []) ∧ PcKs kids
  | .choice _ a b => PcKs a ∧ PcKs b
  | .step _ _ => True
def PcKs : List Pc → Prop
  | [] => True
  | p :: ps => PcK p ∧ PcKs ps
end
theorem PcKs_app : ∀ (a b : List Pc), PcKs a → PcKs b → PcKs (a ++ b)
  | [], _, _, h => h
  | p :: a, b, h, k => by
    rw [PcKs] at h
    rw [List.cons_append, PcKs]
    exact ⟨h.1, PcKs_app a b h.2 k⟩
theorem parts_k {p : Pc} (h : PcK p) : PcKs (partsP p) := by
  cases p with
  | row k us kids => rw [PcK] at h; exact h.2
  | choice e a b =>
    rw [PcK] at h
    rw [show partsP (.choice e a b) = [.row 0 [] a, .row 0 [] b] from rfl, PcKs, PcKs, PcKs, PcK, PcK]
    exact ⟨⟨.inl ⟨.inl rfl, rfl⟩, h.1⟩, ⟨.inl ⟨.inl rfl, rfl⟩, h.2⟩, trivial⟩
  | step nm al => simp only [partsP, PcKs]
theorem partsF_k {l : List Tok} {nd : RS → Pc × RS} (hn : ∀ s, PcK (nd s).1) : ∀ (f : Nat) (ps : List Pc) (s : RS), PcKs ps → PcKs (partsF l nd f ps s).1
  | 0, ps, s, h => h
  | f + 1, ps, s, h => by
    rw [partsF]
    split
    · refine partsF_k hn f _ _ (PcKs_app _ _ h ?_)
      rw [PcKs, PcKs]
      exact ⟨hn s, trivial⟩
    · exact h
theorem unitF_ne {l : List Tok} : ∀ (f : Nat) (us : List ByteArray) (s : RS), us ≠ [] → (unitF l f us s).1 ≠ []
  | 0, us, s, h => h
  | f + 1, us, s, h => by
    rw [unitF]
    split
    · exact unitF_ne f _ _ (by simp)
    · exact h
theorem nodeF_k (l : List Tok) : ∀ (f : Nat) (s : RS), PcK (nodeF l f s).1
  | 0, s => by rw [nodeF, PcK]; trivial
  | f + 1, s => by
    have hb : ∀ s, PcKs (blockP l (nodeF l f) s).1 := fun s => partsF_k (nodeF_k l f) 30 [] _ (by rw [PcKs]; trivial)
    rw [nodeF]
    unfold nodeS
    split
    · simp only
      rw [PcK]
      refine ⟨.inl ⟨?_, rfl⟩, hb _⟩
      split
      · exact .inr rfl
      · exact .inl rfl
    · split
      · simp only
        rw [PcK]
        exact ⟨.inr ⟨rfl, unitF_ne 8 _ _ (by simp)⟩, hb _⟩
      · split
        · simp only
          split
          · simp only [PcK]
            exact ⟨hb _, hb _⟩
          · simp only [PcK, PcKs]
            exact ⟨hb _, trivial⟩
        · split
          · unfold stepP
            simp only [PcK]
          · simp only [PcK]
/-- Nodes lie in a list from a place on. -/
def Sits (look : Int → Nd) (b : Int) (xs : List Nd) : Prop := ∀ i (h : i < xs.length), look (b + i) = xs[i]
theorem Sits.app {look : Int → Nd} {b : Int} {xs ys : List Nd} (h : Sits look b (xs ++ ys)) : Sits look b xs ∧ Sits look (b + xs.length) ys := by
  refine ⟨fun i hi => ?_, fun i hi => ?_⟩
  · rw [h i (by rw [List.length_append]; omega), List.getElem_append_left hi]
  · have h1 := h (xs.length + i) (by rw [List.length_append]; omega)
    rw [List.getElem_append_right (by omega)] at h1
    simp only [Nat.add_sub_cancel_left] at h1
    rw [← h1]
    congr 1
    omega
theorem Sits.cons {look : Int → Nd} {b : Int} {x : Nd} {xs : List Nd} (h : Sits look b (x :: xs)) : look b = x ∧ Sits look (b + 1) xs := by
  have h1 := Sits.app (xs := [x]) (ys := xs) h
  refine ⟨?_, h1.2⟩
  have := h1.1 0 (by simp)
  simpa using this
/-- What is said of a node of a number. -/
structure NodeK (n : Int) (look : Int → Nd) (i : Int) (x : Nd) : Prop where
  asc : Asc n i x.kids
  two : x.kind = 4 → ∃ a b, x.kids = [a, b] ∧ (look a).kind = 0 ∧ (look b).kind = 0
  leaf : x.kind = 3 → x.kids = []
  unit : x.kind = 2 ↔ x.units ≠ []
def SegK (n : Int) (look : Int → Nd) (b : Int) (xs : List Nd) : Prop := ∀ i (h : i < xs.length), NodeK n look (b + i) xs[i]
theorem SegK.app {n : Int} {look : Int → Nd} {b : Int} {xs ys : List Nd} (h : SegK n look b xs) (k : SegK n look (b + xs.length) ys) : SegK n look b (xs ++ ys) := fun i hi => by
  by_cases hl : i < xs.length
  · rw [List.getElem_append_left hl]
    exact h i hl
  · rw [List.getElem_append_right (by omega)]
    have := k (i - xs.length) (by rw [List.length_append] at hi; omega)
    rwa [show b + xs.length + ((i - xs.length : Nat) : Int) = b + i by omega] at this
theorem seg_row {n : Int} {look : Int → Nd} {N : Nat} (h : ∀ p, cP p ≤ N → PcK p → ∀ b : Int, b + cP p ≤ n → Sits look b (numP b p) → SegK n look b (numP b p)) :
    ∀ ps, cPs ps ≤ N → PcKs ps → ∀ b : Int, b + cPs ps ≤ n → Sits look b (numPs b ps).1 → SegK n look b (numPs b ps).1
  | [], _, _, b, _, _ => fun i hi => by rw [numPs_nil] at hi; exact absurd hi (by simp)
  | p :: ps, hN, hk, b, hn, hs => by
    rw [cPs] at hN hn
    rw [PcKs] at hk
    rw [numPs_cons] at hs ⊢
    have hs := Sits.app hs
    refine (h p (by omega) hk.1 b (by omega) hs.1).app (seg_row h ps (by omega) hk.2 _ ?_ hs.2)
    rw [numP_cnt]
    omega
theorem seg_one {n : Int} {look : Int → Nd} (N : Nat) : ∀ p, cP p ≤ N → PcK p → ∀ b : Int, b + cP p ≤ n → Sits look b (numP b p) → SegK n look b (numP b p) := by
  induction N with
  | zero => intro p h; have := cP_pos p; omega
  | succ N ih =>
    intro p h hk b hn hs
    have hp := cP_parts p
    rw [numP_eq] at hs ⊢
    obtain ⟨_, hs2⟩ := hs.cons
    have hrest := seg_row ih (partsP p) (by omega) (parts_k hk) (b + 1) (by omega) hs2
    have hhead : NodeK n look b { headP p with kids := (numPs (b + 1) (partsP p)).2 } := by
      refine ⟨numPs_asc n (partsP p) b (b + 1) (by omega) (by omega), fun h4 => ?_, fun h3 => ?_, ?_⟩
      · cases p with
        | row k us kids =>
          rw [PcK] at hk
          have h4 : k = 4 := h4
          rcases hk.1 with ⟨h | h, _⟩ | ⟨h, _⟩ <;> omega
        | choice e x y =>
          simp only [partsP] at hs2 ⊢
          rw [numPs_cons, numPs_cons] at hs2
          have h1 := Sits.app hs2
          have h2 := Sits.app h1.2
          rw [numPs_cons, numPs_cons, numPs_nil]
          refine ⟨_, _, rfl, ?_, ?_⟩
          · have h3 := h1.1
            rw [numP_eq] at h3
            rw [h3.cons.1]
            rfl
          · have h3 := h2.1
            rw [numP_eq (b + 1 + (numP (b + 1) (Pc.row 0 [] x)).length) (Pc.row 0 [] y)] at h3
            rw [h3.cons.1]
            rfl
        | step nm al => exact absurd h4 (show ¬ (3 : Int) = 4 by decide)
      · cases p with
        | row k us kids =>
          rw [PcK] at hk
          have h3 : k = 3 := h3
          rcases hk.1 with ⟨h | h, _⟩ | ⟨h, _⟩ <;> omega
        | choice e x y => exact absurd h3 (show ¬ (4 : Int) = 3 by decide)
        | step nm al => show (numPs (b + 1) []).2 = []; rw [numPs_nil]
      · cases p with
        | row k us kids =>
          rw [PcK] at hk
          show k = 2 ↔ us ≠ []
          rcases hk.1 with ⟨h, h2⟩ | ⟨h, h2⟩
          · exact ⟨fun e => by omega, fun e => absurd h2 e⟩
          · exact ⟨fun _ => h2, fun _ => h⟩
        | choice e x y => exact ⟨fun e => absurd e (show ¬ (4 : Int) = 2 by decide), fun e => absurd rfl e⟩
        | step nm al => exact ⟨fun e => absurd e (show ¬ (3 : Int) = 2 by decide), fun e => absurd rfl e⟩
    intro i hi
    cases i with
    | zero => simpa using hhead
    | succ i =>
      have := hrest i (by simpa using hi)
      rw [List.getElem_cons_succ]
      rwa [show b + 1 + (i : Int) = b + ((i + 1 : Nat) : Int) by omega] at this
/-- How a recipe's nodes hang together. -/
structure ShapeN (l : List Nd) : Prop where
  node : ∀ i (h : i < l.length), NodeK l.length (ndAt l) i l[i]
  one : ∀ j : Int, (allK l).count j = if 0 < j ∧ j < l.length then 1 else 0
  some : 1 ≤ l.length
  most : l.length ≤ 24
  root : (ndAt l 0).kind = 0
theorem sits_all (l : List Nd) : Sits (ndAt l) 0 l := fun i hi => by
  unfold ndAt
  rw [List.getD_eq_getElem?_getD, show (0 + (i : Int)).toNat = i by omega, List.getElem?_eq_getElem hi]
  rfl
theorem shape_num {ks : List Pc} (hk : PcKs ks) (h : 1 + cPs ks ≤ 24) : ShapeN (numP 0 (.row 0 [] ks)) := by
  have hlen := numP_cnt 0 (.row 0 [] ks)
  have hc : cP (.row 0 [] ks) = 1 + cPs ks := by rw [cP]
  have hK : PcK (.row 0 [] ks) := by rw [PcK]; exact ⟨.inl ⟨.inl rfl, rfl⟩, hk⟩
  refine ⟨fun i hi => ?_, fun j => ?_, by omega, by omega, ?_⟩
  · have := seg_one (n := (numP 0 (.row 0 [] ks)).length) (cP (.row 0 [] ks)) _ (Nat.le_refl _) hK 0 (by omega) (sits_all _) i hi
    rwa [Int.zero_add] at this
  · rw [cnt_one _ _ (Nat.le_refl _), hlen, Int.zero_add]
  · have h1 := sits_all (numP 0 (.row 0 [] ks))
    rw [numP_eq] at h1 ⊢
    rw [h1.cons.1]
    rfl
theorem shape_read {s : ByteArray} (h : (recP s).2.1 = 0) : ShapeN (recP s).1.nodes := by
  unfold recP at h ⊢
  simp only at h ⊢
  by_cases h0 : (cutB s).2.1 = 0
  · rw [if_neg (by omega)] at h ⊢
    have T := toks_of h0
    by_cases hr : (readP (cutB s).1).2.2.2.bad = 0
    · rw [if_neg (by omega)]
      generalize (cutB s).1 = l at T hr ⊢
      unfold readP at hr ⊢
      simp only at hr ⊢
      have hin0 : InR l ⟨0, 0, 1⟩ := ⟨by show (0 : Int) ≤ 0; omega, by show (0 : Int) < _; have := T.fin.1; omega, by show (0 : Int) ≤ 1; omega, by show (1 : Int) ≤ 27; omega, fun _ => by show (1 : Int) ≤ 24; omega⟩
      have hon4 := rMust_on T.fin wRecipe (by decide) hin0
      have hon5 := hon4.trans (rName_on T.fin [] hon4.1)
      have hon7 := hon5.trans (prmF_on T.fin 6 [] _ hon5.1)
      generalize (prmF l 6 [] (rName l [] (rMust l wRecipe ⟨0, 0, 1⟩)).2).2 = s7 at hon7 hr ⊢
      have hm7 : (25 : Int) - (30 : Nat) ≤ s7.nodes := by have := hon7.2; simp only at this; omega
      have hno := nodeF_on T.fin T.take 30
      have hon8 := blockP_on T.fin hno hon7.1 hm7
      have hcnt := blockP_cnt T.fin hno (nodeF_cnt T.fin T.take 30) hon7.1 hm7
      have hk : PcKs (blockP l (nodeF l 30) s7).1 := partsF_k (nodeF_k l 30) 30 [] _ (by rw [PcKs]; trivial)
      have h8 : (blockP l (nodeF l 30) s7).2.bad = 0 := by
        split at hr
        · exact absurd hr (rFail_bad (by decide) _)
        · exact hr
      refine shape_num hk ?_
      have h1 := (hcnt h8).2
      have h2 := hon8.1.2.2.2.2 h8
      have h3 := hon7.2
      simp only at h3
      omega
    · rw [if_pos hr] at h
      exact absurd h hr
  · rw [if_pos h0] at h
    exact absurd h h0
end Go.Proofs.YtgcfjkfipkfijaaGreatDoor
