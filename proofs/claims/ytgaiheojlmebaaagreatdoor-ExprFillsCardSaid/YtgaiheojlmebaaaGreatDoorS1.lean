/- The reference's count of tokens that are left, as a plain function; it is told just by the program's own count. -/
import Derived.Test.YtgaiheojlmebaaaGreatDoorPure5
namespace Go.Proofs.YtgaiheojlmebaaaGreatDoor
open Go Go.RowKit

mutual
/-- How many tokens are left of so many behind a tree's; below 0: too many, or none. -/
def xLeft : Ex → Int → Int
  | .mk op n nm ks, most =>
    if most < 1 ∨ op < 0 ∨ 16 < op then -1
    else if op = 0 ∨ op = 1 then (if 0 < ks.length ∨ op = 0 ∧ (n < 0 ∨ nm.size ≠ 0) ∨ op = 1 ∧ (n ≠ 0 ∨ nameB nm = false) then -1 else most - 1)
    else if ks.length ≠ eParts op ∨ n ≠ 0 ∨ nm.size ≠ 0 then -1
    else xLefts op ks 0 (most - 1)
def xLefts (op : Int) : List Ex → Int → Int → Int
  | [], _, most => most
  | k :: ks, i, most => if xLeft k most < 0 then -1 else xLefts op ks (i + 1) (xLeft k most - (if eWrapped op k.op i then 2 else 0))
end
theorem xLefts_nil (op i most : Int) : xLefts op [] i most = most := rfl
theorem xLefts_cons {op i most : Int} {k : Ex} {ks : List Ex} : xLefts op (k :: ks) i most = if xLeft k most < 0 then -1 else xLefts op ks (i + 1) (xLeft k most - (if eWrapped op k.op i then 2 else 0)) := by rw [xLefts]
theorem xLeft_low (e : Ex) {most : Int} (h : most < 1) : xLeft e most = -1 := by
  obtain ⟨o, n, nm, ks⟩ := e
  rw [xLeft, if_pos (.inl h)]
theorem xLefts_low (op i : Int) (ks : List Ex) {most : Int} (h : most < 0) : xLefts op ks i most < 0 := by
  cases ks with
  | nil => exact h
  | cons k ks => rw [xLefts_cons, xLeft_low k (by omega), if_pos (by decide)]; decide
theorem eToks_cons' {op i n most : Int} {k : Ex} {ks : List Ex} : eToks op (k :: ks) i n most =
    if eTok k (most - n) < 0 then -1
    else if most < n + eTok k (most - n) + (if eWrapped op k.op i then 2 else 0) then -1
    else eToks op ks (i + 1) (n + eTok k (most - n) + (if eWrapped op k.op i then 2 else 0)) most := by rw [eToks]
/-- The two counts. -/
theorem left_tok (N : Nat) : (∀ e : Ex, SizeOf.sizeOf e < N → ∀ most, 0 ≤ most → (0 ≤ eTok e most → eTok e most ≤ most → xLeft e most = most - eTok e most) ∧ (eTok e most < 0 ∨ most < eTok e most → xLeft e most < 0)) ∧
    (∀ ks : List Ex, SizeOf.sizeOf ks < N → ∀ op i n most, n ≤ most → (0 ≤ eToks op ks i n most → xLefts op ks i (most - n) = most - eToks op ks i n most) ∧ (eToks op ks i n most < 0 → 0 ≤ n → xLefts op ks i (most - n) < 0)) := by
  induction N with
  | zero => exact ⟨fun _ h => absurd h (by omega), fun _ h => absurd h (by omega)⟩
  | succ N ih =>
    refine ⟨fun e he most hm => ?_, fun ks hk op i n most hn => ?_⟩
    · obtain ⟨o, n, nm, ks⟩ := e
      have hs : SizeOf.sizeOf ks < N := by simp at he; omega
      rw [eTok, xLeft]
      by_cases h0 : o = 0 ∨ o = 1
      · rw [if_pos h0, if_pos h0]
        by_cases hm1 : most < 1
        · rw [if_pos (show most < 1 ∨ o < 0 ∨ 16 < o from .inl hm1)]
          split <;> omega
        · rw [if_neg (show ¬ (most < 1 ∨ o < 0 ∨ 16 < o) by omega)]
          split <;> omega
      · rw [if_neg h0, if_neg h0]
        by_cases h1 : o < 0 ∨ 16 < o ∨ n ≠ 0 ∨ nm.size ≠ 0 ∨ ks.length ≠ eParts o ∨ most < 1
        · rw [if_pos h1]
          refine ⟨fun h => absurd h (by decide), fun _ => ?_⟩
          split
          · decide
          · rw [if_pos (by omega)]; decide
        · rw [if_neg h1, if_neg (show ¬ (most < 1 ∨ o < 0 ∨ 16 < o) by omega), if_neg (show ¬ (ks.length ≠ eParts o ∨ n ≠ 0 ∨ nm.size ≠ 0) by omega)]
          have h := ih.2 ks hs o 0 1 most (by omega)
          have hle := eToks_le ks o 0 1 most (.inl (by omega))
          refine ⟨fun h2 _ => h.1 h2, fun h2 => h.2 (by omega) (by decide)⟩
    · cases ks with
      | nil =>
        rw [show eToks op [] i n most = n from rfl, xLefts_nil]
        exact ⟨fun _ => rfl, fun h h' => by omega⟩
      | cons x xs =>
        have hx : SizeOf.sizeOf x < N := by simp at hk; omega
        have hxs : SizeOf.sizeOf xs < N := by simp at hk; omega
        rw [eToks_cons', xLefts_cons]
        have h1 := ih.1 x hx (most - n) (by omega)
        have hz : (0 : Int) ≤ (if eWrapped op x.op i = true then 2 else 0) := by split <;> omega
        generalize (if eWrapped op x.op i = true then (2 : Int) else 0) = z at hz ⊢
        obtain ⟨t, ht⟩ : ∃ t, eTok x (most - n) = t := ⟨_, rfl⟩
        rw [ht] at h1 ⊢
        by_cases ht0 : t < 0
        · rw [if_pos ht0, if_pos (h1.2 (.inl ht0))]
          exact ⟨fun h => absurd h (by decide), fun _ _ => by decide⟩
        · rw [if_neg ht0]
          by_cases htm : most - n < t
          · rw [if_pos (by omega), if_pos (h1.2 (.inr htm))]
            exact ⟨fun h => absurd h (by decide), fun _ _ => by decide⟩
          · have h2 := h1.1 (by omega) (by omega)
            rw [h2, if_neg (show ¬ most - n - t < 0 by omega)]
            by_cases hw : most < n + t + z
            · rw [if_pos hw]
              exact ⟨fun h => absurd h (by decide), fun _ _ => xLefts_low op _ xs (by omega)⟩
            · rw [if_neg hw, show most - n - t - z = most - (n + t + z) by omega]
              have h3 := ih.2 xs hxs op (i + 1) (n + t + z) most (by omega)
              exact ⟨h3.1, fun h h' => h3.2 h (by omega)⟩
theorem eTok_ne (e : Ex) (most : Int) : eTok e most ≠ 0 := by
  obtain ⟨o, n, nm, ks⟩ := e
  rw [eTok]
  have key : ∀ (ks : List Ex) (op i n most : Int), 1 ≤ n → eToks op ks i n most ≠ 0 := by
    intro ks
    induction ks with
    | nil => intro op i n most h; rw [show eToks op [] i n most = n from rfl]; omega
    | cons k ks ih =>
      intro op i n most h
      rw [eToks_cons']
      have hz : (0 : Int) ≤ (if eWrapped op k.op i = true then 2 else 0) := by split <;> omega
      generalize (if eWrapped op k.op i = true then (2 : Int) else 0) = z at hz ⊢
      split
      · decide
      · split
        · decide
        · exact ih _ _ _ _ (by omega)
  split
  · split <;> decide
  · split
    · decide
    · exact key _ _ _ _ _ (by decide)
theorem left_may (e : Ex) : decide (0 ≤ xLeft e 64) = eMay e := by
  have h := (left_tok (SizeOf.sizeOf e + 1)).1 e (by omega) 64 (by decide)
  have hn := eTok_ne e 64
  unfold eMay
  by_cases h1 : 0 < eTok e 64
  · by_cases h2 : eTok e 64 ≤ 64
    · rw [decide_eq_true h1, decide_eq_true h2, h.1 (by omega) h2, decide_eq_true (by omega)]; rfl
    · have := h.2 (.inr (by omega))
      rw [decide_eq_true h1, decide_eq_false h2, decide_eq_false (by omega)]; rfl
  · have := h.2 (.inl (by omega))
    rw [decide_eq_false h1, decide_eq_false (by omega)]; rfl
/-- What is left is no more than there was, less one. -/
theorem xLeft_le (N : Nat) : (∀ e : Ex, SizeOf.sizeOf e < N → ∀ most, -1 ≤ most → xLeft e most ≤ most) ∧ (∀ ks : List Ex, SizeOf.sizeOf ks < N → ∀ op i most, xLefts op ks i most ≤ most ∨ xLefts op ks i most = -1) := by
  induction N with
  | zero => exact ⟨fun _ h => absurd h (by omega), fun _ h => absurd h (by omega)⟩
  | succ N ih =>
    refine ⟨fun e he most hm => ?_, fun ks hk op i most => ?_⟩
    · obtain ⟨o, n, nm, ks⟩ := e
      have hs : SizeOf.sizeOf ks < N := by simp at he; omega
      rw [xLeft]
      split
      · omega
      · split
        · split <;> omega
        · split
          · omega
          · have := ih.2 ks hs o 0 (most - 1)
            omega
    · cases ks with
      | nil => exact .inl (Int.le_refl _)
      | cons x xs =>
        have hx : SizeOf.sizeOf x < N := by simp at hk; omega
        have hxs : SizeOf.sizeOf xs < N := by simp at hk; omega
        rw [xLefts_cons]
        have hz : (0 : Int) ≤ (if eWrapped op x.op i = true then 2 else 0) := by split <;> omega
        generalize (if eWrapped op x.op i = true then (2 : Int) else 0) = z at hz ⊢
        split
        · exact .inr rfl
        · rename_i h
          have h1 : xLeft x most ≤ most := by
            by_cases hm : most < 1
            · have := xLeft_low x hm; omega
            · exact ih.1 x hx most (by omega)
          have h2 := ih.2 xs hxs op (i + 1) (xLeft x most - z)
          omega
theorem xLeft_ge (N : Nat) : (∀ e : Ex, SizeOf.sizeOf e < N → ∀ most, -2 ≤ xLeft e most) ∧ (∀ ks : List Ex, SizeOf.sizeOf ks < N → ∀ op i most, -2 ≤ most → -2 ≤ xLefts op ks i most) := by
  induction N with
  | zero => exact ⟨fun _ h => absurd h (by omega), fun _ h => absurd h (by omega)⟩
  | succ N ih =>
    refine ⟨fun e he most => ?_, fun ks hk op i most hm => ?_⟩
    · obtain ⟨o, n, nm, ks⟩ := e
      have hs : SizeOf.sizeOf ks < N := by simp at he; omega
      rw [xLeft]
      split
      · omega
      · split
        · split <;> omega
        · split
          · omega
          · exact ih.2 ks hs o 0 (most - 1) (by omega)
    · cases ks with
      | nil => exact hm
      | cons x xs =>
        have hxs : SizeOf.sizeOf xs < N := by simp at hk; omega
        rw [xLefts_cons]
        have hz : (if eWrapped op x.op i = true then (2 : Int) else 0) ≤ 2 := by split <;> omega
        generalize (if eWrapped op x.op i = true then (2 : Int) else 0) = z at hz ⊢
        split
        · omega
        · exact ih.2 xs hxs op (i + 1) _ (by omega)
end Go.Proofs.YtgaiheojlmebaaaGreatDoor
