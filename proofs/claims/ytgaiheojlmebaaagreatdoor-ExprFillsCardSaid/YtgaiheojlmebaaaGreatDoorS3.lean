/- A name, as the reference says it. Plain. -/
import Derived.Test.YtgaiheojlmebaaaGreatDoorS2
namespace Go.Proofs.YtgaiheojlmebaaaGreatDoor
open Go Go.RowKit Go.Lib

theorem decode_low (s : ByteArray) (i : Nat) : ((s.get! i).toNat < 128 → (Utf8.decode s i).1 = (s.get! i).toNat) ∧ (128 ≤ (s.get! i).toNat → 128 ≤ (Utf8.decode s i).1) := by
  rw [decode_eq]
  refine ⟨fun h => by rw [if_pos h], fun h => ?_⟩
  rw [if_neg (by omega)]
  split
  · split
    · assumption
    · decide
  · split
    · split
      · rename_i h2; exact Nat.le_trans (by decide) h2.1
      · decide
    · split
      · split
        · rename_i h2; exact Nat.le_trans (by decide) h2.1
        · decide
      · decide
theorem cls_two {r : Int} (h : cls r = 2) : ¬ (48 ≤ r ∧ r ≤ 57) := by
  intro hr
  unfold cls at h
  rw [if_neg (by omega), if_neg (by omega), if_neg (by omega), if_pos (by omega)] at h
  cases h
theorem cls_three {r : Int} (h : cls r = 3) : 48 ≤ r ∧ r ≤ 57 := by
  unfold cls at h
  by_cases h1 : r = 32 ∨ r = 9 ∨ r = 13 ∨ r = 10
  · rw [if_pos h1] at h; cases h
  rw [if_neg h1] at h
  by_cases h2 : (97 ≤ r ∧ r ≤ 122) ∨ (65 ≤ r ∧ r ≤ 90) ∨ r = 95
  · rw [if_pos h2] at h; cases h
  rw [if_neg h2] at h
  by_cases h3 : 192 ≤ r ∧ r ≤ 591 ∧ r ≠ 215 ∧ r ≠ 247
  · rw [if_pos h3] at h; cases h
  rw [if_neg h3] at h
  by_cases h4 : 48 ≤ r ∧ r ≤ 57
  · exact h4
  rw [if_neg h4] at h
  by_cases h5 : r = 34
  · rw [if_pos h5] at h; cases h
  rw [if_neg h5] at h
  by_cases h6 : r = 35
  · rw [if_pos h6] at h; cases h
  rw [if_neg h6] at h
  split at h <;> cases h
/-- Is a text a name? -/
def nameX (rs : List (Nat × Nat)) : Bool := rowsOk rs && (decide (0 < rs.length) && (decide (rs.length ≤ 12) && (cls ((rs.headD (0, 0)).1 : Int) == 2 && wordyL rs)))
theorem nameX_eq (s : ByteArray) : nameX (runes s.data.toList) = nameB s := by
  unfold nameX nameB wordyB
  rw [validD_runes, ← rowsOk_valid]
  by_cases h0 : s.size = 0
  · have hr : runes s.data.toList = [] := by
      have := runes_end s 0 (by omega)
      simpa using this
    rw [hr, h0]
    simp
  · have hp : 0 < s.size := by omega
    have hr := runes_at s 0 hp
    rw [List.drop_zero] at hr
    obtain ⟨p, hp1⟩ : ∃ p, Utf8.decode s 0 = p := ⟨_, rfl⟩
    have hlow := decode_low s 0
    have hb := byteZ_get s 0 hp
    unfold byteZ at hb
    have hb' : (s.data.toList.getD 0 0).toNat = (s.get! 0).toNat := by omega
    rw [hp1] at hr hlow
    rw [hb']
    generalize (s.get! 0).toNat = b0 at *
    generalize runes (s.data.toList.drop (0 + p.2)) = rest at hr
    rw [hr]
    have hlen : decide (0 < (p :: rest).length) = true := by simp
    have hsz : decide (s.size ≠ 0) = true := decide_eq_true h0
    rw [hlen, hsz, Bool.true_and, Bool.and_true]
    cases hw : wordyL (p :: rest) with
    | false => simp
    | true =>
      have hwp : isW p.1 = true := by
        unfold wordyL at hw
        rw [List.all_cons, Bool.and_eq_true] at hw
        exact hw.1
      have hc : (cls ((((p :: rest).headD (0, 0)).1 : Nat) : Int) == 2) = (decide (b0 < 48) || decide (57 < b0)) := by
        show (cls (p.1 : Int) == 2) = _
        unfold isW at hwp
        rw [Bool.or_eq_true, beq_iff_eq, beq_iff_eq] at hwp
        rcases hwp with h2 | h3
        · have := cls_two h2
          rw [h2]
          have h : b0 < 48 ∨ 57 < b0 := by omega
          rcases h with h | h <;> simp [h]
        · have := cls_three h3
          rw [h3]
          have h : ¬ b0 < 48 ∧ ¬ 57 < b0 := by omega
          simp [h.1, h.2]
      rw [hc]
      cases rowsOk (p :: rest) <;> cases (decide (b0 < 48) || decide (57 < b0)) <;> simp
end Go.Proofs.YtgaiheojlmebaaaGreatDoor
