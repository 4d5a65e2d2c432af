/- Walks: is a sum or a difference beyond 64 bits? -/
import Derived.Test.YtgaiheojlmebaaaDoorD1
namespace Go.Proofs.YtgaiheojlmebaaaDoor
open Go Go.RowKit Go.Lib

theorem and32 (a : Int) : bits .and .i64 a 4294967295 = a % 4294967296 := by
  show IntKind.i64.wrap ((BitVec.ofInt 64 a &&& BitVec.ofInt 64 4294967295).toNat : Int) = _
  rw [BitVec.toNat_and, BitVec.toNat_ofInt, BitVec.toNat_ofInt, show ((4294967295 : Int) % ((2 ^ 64 : Nat) : Int)).toNat = 2 ^ 32 - 1 by decide, Nat.and_two_pow_sub_one_eq_mod]
  have e : (((a % ((2 ^ 64 : Nat) : Int)).toNat % 2 ^ 32 : Nat) : Int) = a % 4294967296 := by
    have h : ((2 ^ 64 : Nat) : Int) = 18446744073709551616 := by decide
    rw [h]
    omega
  rw [e]
  exact IntWalk.i64_in _ (by omega)

/-- The sum by halves. -/
def halfS (a b : Int) : Int := a / 4294967296 + b / 4294967296 + (a % 4294967296 + b % 4294967296) / 4294967296
def halfD (a b : Int) : Int := a / 4294967296 - b / 4294967296 + (a % 4294967296 - b % 4294967296) / 4294967296
theorem halfS_eq (a b : Int) : halfS a b = (a + b) / 4294967296 := by unfold halfS; omega
theorem halfD_eq (a b : Int) : halfD a b = (a - b) / 4294967296 := by unfold halfD; omega

set_option maxHeartbeats 2000000 in
theorem checked_add (a b : Int) (w : World) (ha : Fits a) (hb : Fits b) :
    Calls Tryd.prog 25 #[.int .i64 4, .int .i64 a, .int .i64 b] w fun r w' => r = .returned (.bool (decide (¬ Fits (a + b)))) ∧ w' = w := by
  have hx := halfS_eq a b
  have w1 : wrap64 (a % 4294967296 + b % 4294967296) = a % 4294967296 + b % 4294967296 := IntWalk.wrap64_in _ ⟨by omega, by omega⟩
  have w3 : wrap64 (a / 4294967296 + b / 4294967296) = a / 4294967296 + b / 4294967296 := IntWalk.wrap64_in _ ⟨by omega, by omega⟩
  have w2 : wrap64 (a / 4294967296 + b / 4294967296 + (a % 4294967296 + b % 4294967296) / 4294967296) = halfS a b := IntWalk.wrap64_in (halfS a b) ⟨by omega, by omega⟩
  have a1 := and32 a
  have a2 := and32 b
  by_cases h1 : halfS a b < -2147483648
  · have HX : Hid (decide (¬ Fits (a + b)) = true) := Lib.hid (decide_eq_true (by omega))
    have h1b : decide (halfS a b < -2147483648) = true := decide_eq_true h1
    clear h1 ha hb hx
    obtain ⟨X, hX⟩ : ∃ X, decide (¬ Fits (a + b)) = X := ⟨_, rfl⟩
    rw [hX] at HX ⊢
    clear hX
    go_enter Tryd.func25, Tryd.ntmps25
    go_wp2_with fail
    go_ret
    exact ⟨ret_bool (by rw [HX.out]), rfl⟩
  · by_cases h2 : 2147483648 ≤ halfS a b
    · have HX : Hid (decide (¬ Fits (a + b)) = true) := Lib.hid (decide_eq_true (by omega))
      have h1b : decide (halfS a b < -2147483648) = false := decide_eq_false h1
      have h2b : decide (2147483648 ≤ halfS a b) = true := decide_eq_true h2
      clear h1 h2 ha hb hx
      obtain ⟨X, hX⟩ : ∃ X, decide (¬ Fits (a + b)) = X := ⟨_, rfl⟩
      rw [hX] at HX ⊢
      clear hX
      go_enter Tryd.func25, Tryd.ntmps25
      go_wp2_with fail
      go_ret
      exact ⟨ret_bool (by rw [HX.out]), rfl⟩
    · have HX : Hid (decide (¬ Fits (a + b)) = false) := Lib.hid (decide_eq_false (by omega))
      have h1b : decide (halfS a b < -2147483648) = false := decide_eq_false h1
      have h2b : decide (2147483648 ≤ halfS a b) = false := decide_eq_false h2
      clear h1 h2 ha hb hx
      obtain ⟨X, hX⟩ : ∃ X, decide (¬ Fits (a + b)) = X := ⟨_, rfl⟩
      rw [hX] at HX ⊢
      clear hX
      go_enter Tryd.func25, Tryd.ntmps25
      go_wp2_with fail
      go_ret
      exact ⟨ret_bool (by rw [HX.out]), rfl⟩
set_option maxHeartbeats 2000000 in
theorem checked_sub (a b : Int) (w : World) (ha : Fits a) (hb : Fits b) :
    Calls Tryd.prog 25 #[.int .i64 5, .int .i64 a, .int .i64 b] w fun r w' => r = .returned (.bool (decide (¬ Fits (a - b)))) ∧ w' = w := by
  have hx := halfD_eq a b
  have w1 : wrap64 (a % 4294967296 - b % 4294967296) = a % 4294967296 - b % 4294967296 := IntWalk.wrap64_in _ ⟨by omega, by omega⟩
  have w3 : wrap64 (a / 4294967296 - b / 4294967296) = a / 4294967296 - b / 4294967296 := IntWalk.wrap64_in _ ⟨by omega, by omega⟩
  have w2 : wrap64 (a / 4294967296 - b / 4294967296 + (a % 4294967296 - b % 4294967296) / 4294967296) = halfD a b := IntWalk.wrap64_in (halfD a b) ⟨by omega, by omega⟩
  have a1 := and32 a
  have a2 := and32 b
  by_cases h1 : halfD a b < -2147483648
  · have HX : Hid (decide (¬ Fits (a - b)) = true) := Lib.hid (decide_eq_true (by omega))
    have h1b : decide (halfD a b < -2147483648) = true := decide_eq_true h1
    clear h1 ha hb hx
    obtain ⟨X, hX⟩ : ∃ X, decide (¬ Fits (a - b)) = X := ⟨_, rfl⟩
    rw [hX] at HX ⊢
    clear hX
    go_enter Tryd.func25, Tryd.ntmps25
    go_wp2_with fail
    go_ret
    exact ⟨ret_bool (by rw [HX.out]), rfl⟩
  · by_cases h2 : 2147483648 ≤ halfD a b
    · have HX : Hid (decide (¬ Fits (a - b)) = true) := Lib.hid (decide_eq_true (by omega))
      have h1b : decide (halfD a b < -2147483648) = false := decide_eq_false h1
      have h2b : decide (2147483648 ≤ halfD a b) = true := decide_eq_true h2
      clear h1 h2 ha hb hx
      obtain ⟨X, hX⟩ : ∃ X, decide (¬ Fits (a - b)) = X := ⟨_, rfl⟩
      rw [hX] at HX ⊢
      clear hX
      go_enter Tryd.func25, Tryd.ntmps25
      go_wp2_with fail
      go_ret
      exact ⟨ret_bool (by rw [HX.out]), rfl⟩
    · have HX : Hid (decide (¬ Fits (a - b)) = false) := Lib.hid (decide_eq_false (by omega))
      have h1b : decide (halfD a b < -2147483648) = false := decide_eq_false h1
      have h2b : decide (2147483648 ≤ halfD a b) = false := decide_eq_false h2
      clear h1 h2 ha hb hx
      obtain ⟨X, hX⟩ : ∃ X, decide (¬ Fits (a - b)) = X := ⟨_, rfl⟩
      rw [hX] at HX ⊢
      clear hX
      go_enter Tryd.func25, Tryd.ntmps25
      go_wp2_with fail
      go_ret
      exact ⟨ret_bool (by rw [HX.out]), rfl⟩
end Go.Proofs.YtgaiheojlmebaaaDoor
