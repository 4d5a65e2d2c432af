/- How many bytes a token has: at least one, and no more than there are. Plain. -/
import Derived.Test.YtgaiheojlmebaaaDoorCutP
namespace Go.Proofs.YtgaiheojlmebaaaDoor
open Go Go.RowKit Go.Lib

theorem wordN_le' : ∀ (n : Nat) (l : List UInt8), l.length ≤ n → wordN (runes l) ≤ l.length := by
  intro n
  induction n with
  | zero => intro l h; rw [List.eq_nil_of_length_eq_zero (by omega : l.length = 0)]; exact Nat.le_refl _
  | succ n ih =>
    intro l h
    by_cases hl : l = []
    · subst hl; exact Nat.le_refl _
    · have h1 : 0 < l.length := List.length_pos_iff.2 hl
      have hw := decodeL_width l
      have hle := decodeL_le l hl
      have := ih (l.drop (decodeL l).2) (by rw [List.length_drop]; omega)
      rw [List.length_drop] at this
      rw [runes_cons l hl]
      simp only [wordN]
      split <;> omega
theorem wordN_pos {l : List UInt8} (hl : l ≠ []) (h : cls (decodeL l).1 = 2 ∨ cls (decodeL l).1 = 3) : 1 ≤ wordN (runes l) := by
  have hw := decodeL_width l
  rw [runes_cons l hl]
  have : isW (decodeL l).1 = true := by unfold isW; rcases h with h | h <;> rw [h] <;> rfl
  simp only [wordN, this, if_true]
  omega
theorem cut_found {l sep : List UInt8} (h : (cut l sep).2.2 = true) (hs : sep.length = 1) : (cut l sep).1.length + 1 ≤ l.length := by
  unfold cut at h ⊢
  by_cases hi : 0 ≤ index l sep
  · rw [if_pos hi]
    have hb := index_room l sep hi
    simp
    omega
  · rw [if_neg hi] at h
    simp at h
theorem cut_len' (l sep : List UInt8) : (cut l sep).1.length ≤ l.length := by
  unfold cut
  split
  · simp; omega
  · simp
theorem textF_ok {l : List UInt8} (h : (textF l).2.2 = 0) : 1 ≤ (textF l).2.1 ∧ (textF l).2.1 ≤ l.length := by
  unfold textF at h ⊢
  simp only at h ⊢
  by_cases h1 : (cut (cut (l.drop 1) [10]).1 [34]).2.2 = false
  · rw [if_pos h1] at h; simp at h
  · rw [if_neg h1] at h ⊢
    have h1' : (cut (cut (l.drop 1) [10]).1 [34]).2.2 = true := by simpa using h1
    have a := cut_found h1' rfl
    have b := cut_len' (l.drop 1) [10]
    rw [List.length_drop] at b
    split at h
    · simp at h
    · rename_i h2
      rw [if_neg h2]
      split at h
      · simp at h
      · rename_i h3
        rw [if_neg h3]
        simp only
        omega
theorem tokF_ok {l : List UInt8} (hl : l ≠ []) (h : (tokF l).2.2 = 0) : 1 ≤ (tokF l).2.1 ∧ (tokF l).2.1 ≤ l.length := by
  have h0 : 0 < l.length := List.length_pos_iff.2 hl
  have hw := decodeL_width l
  have hle := decodeL_le l hl
  have hn := wordN_le' _ l (Nat.le_refl _)
  unfold tokF at h ⊢
  simp only at h ⊢
  split at h
  · rename_i h2
    rw [if_pos h2]
    have := wordN_pos hl (.inl h2)
    split at h
    · simp at h
    · rename_i h3
      rw [if_neg h3]
      simp only
      omega
  · rename_i h2
    rw [if_neg h2]
    split at h
    · rename_i h3
      rw [if_pos h3]
      have := wordN_pos hl (.inr h3)
      split at h
      · rename_i h4
        rw [if_pos h4]
        simp only
        omega
      · simp at h
    · rename_i h3
      rw [if_neg h3]
      split at h
      · rename_i h4
        rw [if_pos h4]
        exact textF_ok h
      · rename_i h4
        rw [if_neg h4]
        split at h
        · rename_i h5
          rw [if_pos h5]
          simp only
          split <;> omega
        · simp at h
end Go.Proofs.YtgaiheojlmebaaaDoor
