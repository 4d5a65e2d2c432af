/- A tree's names: sorted and made single by the library, or put in their places one by one: the same. Plain. -/
import Derived.Test.YtgaiheojlmebaaaGreatDoorPure3
import Derived.Lib.SlicesCompact
namespace Go.Proofs.YtgaiheojlmebaaaGreatDoor
open Go Go.RowKit Go.Lib

abbrev Bs := List UInt8
theorem bs_le_lt {x y z : Bs} (h : x ≤ y) (k : y < z) : x < z := by
  by_cases e : x < z
  · exact e
  · exact absurd (List.le_trans (List.not_lt.1 e) h) (by rw [← List.not_lt, Classical.not_not]; exact k)
theorem bs_lt_of {x y : Bs} (h : x ≤ y) (k : x ≠ y) : x < y := by
  by_cases e : x < y
  · exact e
  · exact absurd (List.le_antisymm h (List.not_lt.1 e)) k
theorem bs_le_of {x y : Bs} (h : x < y) : x ≤ y := by
  rw [← List.not_lt]
  intro k
  exact List.lt_irrefl x (List.lt_trans h k)
/-- Two lists in strict order that have the same are the same. -/
theorem strict_eq {l m : List Bs} (hl : l.Pairwise (· < ·)) (hm : m.Pairwise (· < ·)) (h : ∀ x, x ∈ l ↔ x ∈ m) : l = m := by
  have nd : ∀ {k : List Bs}, k.Pairwise (· < ·) → k.Nodup := fun hk => hk.imp (fun hab e => by rw [e] at hab; exact List.lt_irrefl _ hab)
  refine List.Perm.eq_of_pairwise (le := fun a b => a < b) (fun a b _ _ h1 h2 => absurd (List.lt_trans h1 h2) (List.lt_irrefl a)) hl hm ?_
  exact (List.perm_ext_iff_of_nodup (nd hl) (nd hm)).2 h
theorem compact_strict (d : Array Bs) (hd : ∀ i j, i ≤ j → j < d.size → d[i]! ≤ d[j]!) : ∀ m, m ≤ d.size → (compactUpTo d m).Pairwise (· < ·) ∧ ∀ x, x ∈ compactUpTo d m ↔ ∃ j, j < m ∧ d[j]! = x := by
  intro m
  induction m with
  | zero => intro _; exact ⟨by simp [compactUpTo], fun x => by simp [compactUpTo]⟩
  | succ m ih =>
    intro hm
    obtain ⟨h1, h2⟩ := ih (by omega)
    rw [compactUpTo_succ]
    by_cases hk : keeps d m = true
    · rw [if_pos hk]
      have hk2 : m = 0 ∨ d[m]! ≠ d[m - 1]! := by unfold keeps at hk; exact of_decide_eq_true hk
      refine ⟨List.pairwise_append.2 ⟨h1, by simp, fun x hx y hy => ?_⟩, fun x => ?_⟩
      · obtain ⟨j, hj, rfl⟩ := (h2 x).1 hx
        simp at hy
        subst hy
        have hne : d[m]! ≠ d[m - 1]! := by rcases hk2 with e | e; omega; exact e
        exact bs_le_lt (hd j (m - 1) (by omega) (by omega)) (bs_lt_of (hd (m - 1) m (by omega) (by omega)) (fun e => hne e.symm))
      · rw [List.mem_append, h2]
        constructor
        · rintro (⟨j, hj, e⟩ | hx)
          · exact ⟨j, by omega, e⟩
          · simp at hx; exact ⟨m, by omega, hx.symm⟩
        · rintro ⟨j, hj, e⟩
          by_cases ej : j = m
          · subst ej; exact .inr (by simp [e])
          · exact .inl ⟨j, by omega, e⟩
    · rw [if_neg hk, List.append_nil]
      have hk2 : ¬ (m = 0 ∨ d[m]! ≠ d[m - 1]!) := fun e => hk (by unfold keeps; exact decide_eq_true e)
      have hm0 : m ≠ 0 := fun e => hk2 (.inl e)
      have he : d[m]! = d[m - 1]! := Classical.byContradiction fun e => hk2 (.inr e)
      refine ⟨h1, fun x => ?_⟩
      rw [h2]
      constructor
      · rintro ⟨j, hj, e⟩; exact ⟨j, by omega, e⟩
      · rintro ⟨j, hj, e⟩
        by_cases ej : j = m
        · subst ej; exact ⟨j - 1, by omega, by rw [← he]; exact e⟩
        · exact ⟨j, by omega, e⟩
/-- What slices.Sort and slices.Compact make of a list. -/
def sortC (l : List Bs) : List Bs := Lib.compact (l.mergeSort fun x y => decide (x ≤ y))
theorem sortC_strict (l : List Bs) : (sortC l).Pairwise (· < ·) ∧ ∀ x, x ∈ sortC l ↔ x ∈ l := by
  have tr : ∀ a b c : Bs, decide (a ≤ b) = true → decide (b ≤ c) = true → decide (a ≤ c) = true := fun a b c h1 h2 => by simp only [decide_eq_true_eq] at *; exact List.le_trans h1 h2
  have tt : ∀ a b : Bs, (decide (a ≤ b) || decide (b ≤ a)) = true := fun a b => by simp only [Bool.or_eq_true, decide_eq_true_eq]; exact List.le_total a b
  have hs := List.pairwise_mergeSort (le := fun x y : Bs => decide (x ≤ y)) tr tt l
  have hp := List.mergeSort_perm l (fun x y : Bs => decide (x ≤ y))
  unfold sortC compact
  generalize l.mergeSort (fun x y : Bs => decide (x ≤ y)) = z at hs hp ⊢
  have hd : ∀ i j, i ≤ j → j < z.toArray.size → z.toArray[i]! ≤ z.toArray[j]! := by
    intro i j hij hj
    have hj' : j < z.length := by simpa using hj
    by_cases e : i = j
    · subst e; exact List.le_refl _
    · have := List.pairwise_iff_getElem.1 hs i j (by omega) hj' (by omega)
      simp only [decide_eq_true_eq] at this
      rw [getElem!_pos z.toArray i (by simp; omega), getElem!_pos z.toArray j (by simp; omega)]
      simpa using this
  obtain ⟨h1, h2⟩ := compact_strict z.toArray hd z.length (by simp)
  refine ⟨h1, fun x => ?_⟩
  rw [h2, ← hp.mem_iff]
  constructor
  · rintro ⟨j, hj, rfl⟩
    rw [getElem!_pos z.toArray j (by simpa using hj)]
    simp
  · intro hx
    obtain ⟨j, hj, rfl⟩ := List.getElem_of_mem hx
    exact ⟨j, hj, by rw [getElem!_pos z.toArray j (by simpa using hj)]; simp⟩
/-- A name put in its place; done: it is in already. -/
def insX (x : Bs) : Bool → List Bs → List Bs
  | d, [] => if d then [] else [x]
  | d, y :: ys => if d = false ∧ x < y then x :: y :: insX x true ys else y :: insX x d ys
def insR (x : Bs) (l : List Bs) : List Bs := if x ∈ l then l else insX x false l
theorem insX_done (x : Bs) : ∀ l, insX x true l = l
  | [] => rfl
  | y :: ys => by rw [insX, if_neg (by simp), insX_done x ys]
theorem insX_strict (x : Bs) : ∀ l : List Bs, l.Pairwise (· < ·) → x ∉ l → (insX x false l).Pairwise (· < ·) ∧ ∀ y, y ∈ insX x false l ↔ y = x ∨ y ∈ l
  | [], _, _ => ⟨by simp [insX], fun y => by simp [insX]⟩
  | z :: zs, hl, hx => by
    have hz := List.pairwise_cons.1 hl
    rw [insX]
    by_cases h : x < z
    · rw [if_pos ⟨rfl, h⟩, insX_done]
      refine ⟨List.pairwise_cons.2 ⟨fun y hy => ?_, hl⟩, fun y => by simp⟩
      rcases List.mem_cons.1 hy with rfl | hy
      · exact h
      · exact List.lt_trans h (hz.1 y hy)
    · rw [if_neg (fun e => h e.2)]
      obtain ⟨h1, h2⟩ := insX_strict x zs hz.2 (fun e => hx (by simp [e]))
      refine ⟨List.pairwise_cons.2 ⟨fun y hy => ?_, h1⟩, fun y => ?_⟩
      · rcases (h2 y).1 hy with rfl | hy
        · exact bs_lt_of (List.not_lt.1 h) (fun e => hx (by simp [e]))
        · exact hz.1 y hy
      · rw [List.mem_cons, h2, List.mem_cons]
        constructor
        · rintro (e | e | e)
          · exact .inr (.inl e)
          · exact .inl e
          · exact .inr (.inr e)
        · rintro (e | e | e)
          · exact .inr (.inl e)
          · exact .inl e
          · exact .inr (.inr e)
theorem insR_strict (x : Bs) (l : List Bs) (hl : l.Pairwise (· < ·)) : (insR x l).Pairwise (· < ·) ∧ ∀ y, y ∈ insR x l ↔ y = x ∨ y ∈ l := by
  unfold insR
  by_cases h : x ∈ l
  · rw [if_pos h]
    exact ⟨hl, fun y => ⟨fun e => .inr e, fun e => by rcases e with rfl | e; exact h; exact e⟩⟩
  · rw [if_neg h]
    exact insX_strict x l hl h
mutual
/-- A tree's names, in order. -/
def nmE : Ex → List Bs
  | .mk op _ nm ks => if op = 1 then [nm.data.toList] else nmEs ks
def nmEs : List Ex → List Bs
  | [] => []
  | k :: ks => nmE k ++ nmEs ks
end
mutual
/-- A tree's names put in their places in a list. -/
def insE : Ex → List Bs → List Bs
  | .mk op _ nm ks, l => if op = 1 then insR nm.data.toList (insEs ks l) else insEs ks l
def insEs : List Ex → List Bs → List Bs
  | [], l => l
  | k :: ks, l => insEs ks (insE k l)
end
theorem nmEs_cons (k : Ex) (ks : List Ex) : nmEs (k :: ks) = nmE k ++ nmEs ks := by rw [nmEs]
theorem insEs_cons (k : Ex) (ks : List Ex) (l : List Bs) : insEs (k :: ks) l = insEs ks (insE k l) := by rw [insEs]
theorem insE_strict (N : Nat) : (∀ e : Ex, SizeOf.sizeOf e < N → ExSh e → ∀ l : List Bs, l.Pairwise (· < ·) → (insE e l).Pairwise (· < ·) ∧ ∀ y, y ∈ insE e l ↔ y ∈ l ∨ y ∈ nmE e) ∧
    (∀ ks : List Ex, SizeOf.sizeOf ks < N → (∀ k, k ∈ ks → ExSh k) → ∀ l : List Bs, l.Pairwise (· < ·) → (insEs ks l).Pairwise (· < ·) ∧ ∀ y, y ∈ insEs ks l ↔ y ∈ l ∨ y ∈ nmEs ks) := by
  induction N with
  | zero => exact ⟨fun _ h => absurd h (by omega), fun _ h => absurd h (by omega)⟩
  | succ N ih =>
    refine ⟨fun e he hs l hl => ?_, fun ks hk hs l hl => ?_⟩
    · cases hs with
      | @leaf op n nm ks h h2 =>
        subst h2
        rw [insE, nmE]
        by_cases h1 : op = 1
        · rw [if_pos h1, if_pos h1, insEs]
          obtain ⟨a, b⟩ := insR_strict nm.data.toList l hl
          exact ⟨a, fun y => by rw [b]; simp [Or.comm]⟩
        · rw [if_neg h1, if_neg h1, insEs, nmEs]
          exact ⟨hl, fun y => by simp⟩
      | @node op n nm ks h1 h2 h3 h4 =>
        rw [insE, nmE, if_neg (by omega), if_neg (by omega)]
        exact ih.2 ks (by simp at he; omega) h4 l hl
    · cases ks with
      | nil => rw [insEs, nmEs]; exact ⟨hl, fun y => by simp⟩
      | cons k ks =>
        rw [insEs_cons, nmEs_cons]
        obtain ⟨a, b⟩ := ih.1 k (by simp at hk; omega) (hs k (by simp)) l hl
        obtain ⟨c, d⟩ := ih.2 ks (by simp at hk; omega) (fun x hx => hs x (by simp [hx])) _ a
        exact ⟨c, fun y => by rw [d, b, List.mem_append, or_assoc]⟩
/-- The two ways to a tree's names. -/
theorem names_eq {e : Ex} (h : ExSh e) : insE e [] = sortC (nmE e) := by
  obtain ⟨a, b⟩ := (insE_strict (SizeOf.sizeOf e + 1)).1 e (by omega) h [] List.Pairwise.nil
  obtain ⟨c, d⟩ := sortC_strict (nmE e)
  exact strict_eq a c (fun x => by rw [b, d]; simp)
end Go.Proofs.YtgaiheojlmebaaaGreatDoor
