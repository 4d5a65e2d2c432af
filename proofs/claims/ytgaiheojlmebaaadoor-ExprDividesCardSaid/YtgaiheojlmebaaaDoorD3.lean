/- The law of quotients: whatever the two numbers. -/
import Derived.Test.YtgaiheojlmebaaaDoorD2
namespace Go.Proofs.YtgaiheojlmebaaaDoor
open Go Go.RowKit Go.Lib

theorem divides_any (a b : Int) (w : World) (hT : Tabs w) (ha : Fits a) (hb : Fits b) :
    Calls Tryd.prog 10 #[.int .i64 a, .int .i64 b] w fun r w' => r = .returned (.bool true) ∧ Below w.heap.size w w' := by
  by_cases h0 : b = 0
  · exact div_zero a b w hT ha hb h0
  by_cases ho : a = -9223372036854775808 ∧ b = -1
  · obtain ⟨rfl, rfl⟩ := ho
    exact div_out w hT
  have hab : (a.tmod b).natAbs = a.natAbs % b.natAbs := Int.natAbs_tmod a b
  have hlt : a.natAbs % b.natAbs < b.natAbs := Nat.mod_lt _ (by omega)
  have hle : a.natAbs % b.natAbs ≤ a.natAbs := Nat.mod_le _ _
  have hsum : b * a.tdiv b + a.tmod b = a := Int.mul_tdiv_add_tmod a b
  have hq : Fits (a.tdiv b) := by
    by_cases h1 : b = -1
    · subst h1
      have : a.tdiv (-1) = -a := by
        rw [Int.tdiv_neg, Int.tdiv_one]
      rw [this]
      exact ⟨by omega, by omega⟩
    · exact tdiv_fits ha.1 ha.2 h0 h1
  have hpos : 0 ≤ a → 0 ≤ a.tmod b := fun h => Int.tmod_nonneg b h
  have hneg : a ≤ 0 → a.tmod b ≤ 0 := fun h => by
    have h1 := Int.tmod_nonneg b (show 0 ≤ -a by omega)
    rw [Int.neg_tmod] at h1
    omega
  obtain ⟨q, hq'⟩ : ∃ q, a.tdiv b = q := ⟨_, rfl⟩
  obtain ⟨r, hr'⟩ : ∃ r, a.tmod b = r := ⟨_, rfl⟩
  rw [hr'] at hab hpos hneg
  rw [hq', hr'] at hsum
  have hcomm : q * b = a - r := by rw [Int.mul_comm]; omega
  have hr : Fits r := ⟨by omega, by omega⟩
  have hp : Fits (a - r) := by
    by_cases h : 0 ≤ a
    · have := hpos h; exact ⟨by omega, by omega⟩
    · have := hneg (by omega); exact ⟨by omega, by omega⟩
  have e7 : eTwo 7 a b = (q, 0) := by
    unfold eTwo eDivide chk
    rw [if_neg (by decide), if_neg (by decide), if_neg (by decide), if_pos (by decide), if_neg h0, if_neg (by decide), hq', if_pos (by rw [← hq']; exact hq)]
  have e8 : eTwo 8 a b = (r, 0) := by
    unfold eTwo eDivide
    rw [if_neg (by decide), if_neg (by decide), if_neg (by decide), if_pos (by decide), if_neg h0, if_pos rfl, hr']
  have e6 : eTwo 6 q b = (a - r, 0) := by
    unfold eTwo chk
    rw [if_neg (by decide), if_neg (by decide), if_pos rfl, hcomm, if_pos hp]
  have e4 : eTwo 4 (a - r) r = (a, 0) := by
    unfold eTwo chk
    rw [if_pos rfl, show a - r + r = a by omega, if_pos ha]
  have hqf : Fits q := hq' ▸ hq
  rcases Int.lt_trichotomy r 0 with hs | hs | hs
  · by_cases hd : 0 < b
    · exact div_np a b q r (a - r) w hT ha hb hqf hr hp e7 e8 e6 e4 h0 hs (by omega) hd (by omega) (by omega)
    · exact div_nn a b q r (a - r) w hT ha hb hqf hr hp e7 e8 e6 e4 h0 hs (by omega) (by omega) (by omega) (by omega)
  · by_cases hd : 0 < b
    · exact div_zp a b q r (a - r) w hT ha hb hqf hr hp e7 e8 e6 e4 h0 hs hd (by omega) (by omega)
    · exact div_zn a b q r (a - r) w hT ha hb hqf hr hp e7 e8 e6 e4 h0 hs (by omega) (by omega) (by omega)
  · by_cases hd : 0 < b
    · exact div_pp a b q r (a - r) w hT ha hb hqf hr hp e7 e8 e6 e4 h0 hs (by omega) hd (by omega) (by omega)
    · exact div_pn a b q r (a - r) w hT ha hb hqf hr hp e7 e8 e6 e4 h0 hs (by omega) (by omega) (by omega) (by omega)
end Go.Proofs.YtgaiheojlmebaaaDoor
