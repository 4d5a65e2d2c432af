/- Walks through the small functions of expr. -/
import Derived.Test.YtgaiheojlmebaaaGreatDoorProg
import Derived.Test.YtgaiheojlmebaaaGreatDoorPure5
import Derived.Tactics
import Derived.WalkKit
import Derived.KernelRfl
import Derived.LoopTactic
import Derived.Deep.QuietTactic
import Derived.BigQuiet
import Derived.Outline
import Derived.Lib.Hide
import Derived.Test.YtgaiheojlmebaaaGreatDoorShelf
namespace Go.Proofs.YtgaiheojlmebaaaGreatDoor
open Go Go.RowKit
theorem ret_int {k : IntKind} {a b : Int} (h : a = b) : Ending.returned (.int k a) = .returned (.int k b) := by rw [h]
theorem ret_str {a b : ByteArray} (h : a = b) : Ending.returned (.string a) = .returned (.string b) := by rw [h]
theorem ret_int2 {k l : IntKind} {a b : Int} {p : Int × Int} (h : (a, b) = p) : Ending.returned (.tuple #[.int k a, .int l b]) = .returned (.tuple #[.int k p.1, .int l p.2]) := by rw [← h]

set_option maxHeartbeats 400000 in
theorem line_any (op : Int) (w : World) : Calls Tryz.prog 70 #[.int .i64 op] w fun e w' => e = .returned (.int .i64 (eLine op)) ∧ w = w' := by
  go_enter Tryz.func70, Tryz.ntmps70
  go_wp2
  all_goals
    go_ret
    refine ⟨ret_int ?_, rfl⟩
    simp only [beq_iff_eq, beq_eq_false_iff_ne, ne_eq] at *
    unfold eLine
    (repeat (first | rw [if_pos (by omega)] | rw [if_neg (by omega)]))

set_option maxHeartbeats 400000 in
theorem sign_any (op : Int) (w : World) : Calls Tryz.prog 41 #[.int .i64 op] w fun e w' => e = .returned (.string (eSign op)) ∧ w = w' := by
  go_enter Tryz.func41, Tryz.ntmps41
  go_wp2
  all_goals
    go_ret
    refine ⟨ret_str ?_, rfl⟩
    simp only [beq_iff_eq, beq_eq_false_iff_ne, ne_eq] at *
    unfold eSign
    (repeat (first | rw [if_pos (by omega)] | rw [if_neg (by omega)]))
    all_goals rfl

set_option maxHeartbeats 400000 in
theorem truth_any (p : Bool) (w : World) : Calls Tryz.prog 49 #[.bool p] w fun e w' => e = .returned (.int .i64 (b01 p)) ∧ w = w' := by
  cases p
  all_goals
    go_enter Tryz.func49, Tryz.ntmps49
    go_wp2
    go_ret
    exact ⟨rfl, rfl⟩

set_option maxHeartbeats 400000 in
theorem plus_any (a b : Int) (w : World) (ha : Fits a) (hb : Fits b) : Calls Tryz.prog 79 #[.int .i64 a, .int .i64 b] w fun e w' => e = .returned (.tuple #[.int .i64 (chk (a + b)).1, .int .i64 (chk (a + b)).2]) ∧ w = w' := by
  obtain ⟨ha1, ha2⟩ := ha
  obtain ⟨hb1, hb2⟩ := hb
  go_enter Tryz.func79, Tryz.ntmps79
  go_wp2
  all_goals
    go_ret2
    rename_i h
    refine ⟨ret_int2 ?_, rfl⟩
    first
    | exact (plus_bad ha1 ha2 hb1 hb2 h)
    | exact (plus_good ha1 ha2 hb1 hb2 h)

set_option maxHeartbeats 400000 in
theorem minus_any (a b : Int) (w : World) (ha : Fits a) (hb : Fits b) : Calls Tryz.prog 48 #[.int .i64 a, .int .i64 b] w fun e w' => e = .returned (.tuple #[.int .i64 (chk (a - b)).1, .int .i64 (chk (a - b)).2]) ∧ w = w' := by
  obtain ⟨ha1, ha2⟩ := ha
  obtain ⟨hb1, hb2⟩ := hb
  go_enter Tryz.func48, Tryz.ntmps48
  go_wp2
  all_goals
    go_ret2
    rename_i h
    refine ⟨ret_int2 ?_, rfl⟩
    first
    | exact (minus_bad ha1 ha2 hb1 hb2 h)
    | exact (minus_good ha1 ha2 hb1 hb2 h)

set_option maxHeartbeats 400000 in
theorem size_any (a : Int) (w : World) (ha : Fits a) : Calls Tryz.prog 100 #[.int .i64 a] w fun e w' => e = .returned (.int .u64 (a.natAbs : Int)) ∧ w = w' := by
  obtain ⟨ha1, ha2⟩ := ha
  go_enter Tryz.func100, Tryz.ntmps100
  go_wp2
  all_goals
    go_ret
    refine ⟨ret_int ?_, rfl⟩
    (try rw [IntKind.wrap_u64, IntKind.wrap_u64])
    omega

set_option maxHeartbeats 400000 in
theorem times_any (a b : Int) (w : World) (ha : Fits a) (hb : Fits b) : Calls Tryz.prog 80 #[.int .i64 a, .int .i64 b] w fun e w' => e = .returned (.tuple #[.int .i64 (chk (a * b)).1, .int .i64 (chk (a * b)).2]) ∧ w = w' := by
  obtain ⟨ha1, ha2⟩ := ha
  obtain ⟨hb1, hb2⟩ := hb
  have hA := Lib.hid (size_any a w ⟨ha1, ha2⟩)
  have hB := Lib.hid (size_any b w ⟨hb1, hb2⟩)
  have HX : Hid (a.natAbs * b.natAbs = (a * b).natAbs) := (Int.natAbs_mul a b).symm
  obtain ⟨p, hp⟩ : ∃ p, p = a * b := ⟨_, rfl⟩
  have HPP : Hid ((0 ≤ a ∧ 0 ≤ b → 0 ≤ p) ∧ (a < 0 ∧ b < 0 → 0 ≤ p) ∧ (a < 0 ∧ 0 ≤ b → p ≤ 0) ∧ (0 ≤ a ∧ b < 0 → p ≤ 0)) := by
    subst hp
    exact ⟨fun h => Int.mul_nonneg h.1 h.2, fun h => Int.mul_nonneg_of_nonpos_of_nonpos (by omega) (by omega), fun h => Int.mul_nonpos_of_nonpos_of_nonneg (by omega) h.2, fun h => Int.mul_nonpos_of_nonneg_of_nonpos h.1 (by omega)⟩
  rw [← hp] at HX ⊢
  have hM := Lib.hid (Tryz.bits_Mul64 a.natAbs b.natAbs (by omega) (by omega) w)
  rw [HX.out] at hM
  clear HX hp
  obtain ⟨q, hq⟩ : ∃ q, p.natAbs = q := ⟨_, rfl⟩
  rw [hq] at hM
  have HQ := Lib.hid hq
  clear hq
  obtain ⟨hi, h1⟩ : ∃ hi, q / 18446744073709551616 = hi := ⟨_, rfl⟩
  obtain ⟨lo, h2⟩ : ∃ lo, q % 18446744073709551616 = lo := ⟨_, rfl⟩
  rw [h1, h2] at hM
  have hlo : (lo : Int) ≤ 18446744073709551615 := by omega
  have hlo0 : (0 : Int) ≤ (lo : Int) := by omega
  have H1 := Lib.hid h1
  have H2 := Lib.hid h2
  clear h1 h2
  go_enter Tryz.func80, Tryz.ntmps80
  go_wp2_with fail
  refine hA.out.mono ?_
  rintro e w' ⟨rfl, rfl⟩
  go_wp2_with fail
  refine hB.out.mono ?_
  rintro e w' ⟨rfl, rfl⟩
  go_wp2_with fail
  refine hM.out.mono ?_
  rintro e w' ⟨rfl, rfl⟩
  clear hA hB hM
  have dec : ∀ x : Int, x < 0 ∧ decide (x < 0) = true ∨ 0 ≤ x ∧ decide (x < 0) = false := fun x => by
    rcases Int.lt_or_le x 0 with h | h
    · exact .inl ⟨h, decide_eq_true h⟩
    · exact .inr ⟨h, decide_eq_false (by omega)⟩
  rcases dec a with ⟨ha0, ea⟩ | ⟨ha0, ea⟩ <;> rcases dec b with ⟨hb0, eb⟩ | ⟨hb0, eb⟩
  all_goals
    clear dec
    go_wp2
    all_goals
      go_ret2
      refine ⟨ret_int2 ?_, rfl⟩
      have h1 := H1.out
      have h2 := H2.out
      have hq := HQ.out
      obtain ⟨p1, p2, p3, p4⟩ := HPP.out
      clear ea eb
      (try rw [IntKind.wrap_u64])
      (try rw [wrap64_eq])
      unfold chk
      first
      | (rw [if_neg (by omega)]; done)
      | (rw [if_pos (by omega)]; congr 1; omega)

set_option maxHeartbeats 400000 in
theorem divide_any (op a b : Int) (w : World) (ho : op = 7 ∨ op = 8) (ha : Fits a) (hb : Fits b) : Calls Tryz.prog 81 #[.int .i64 op, .int .i64 a, .int .i64 b] w fun e w' => e = .returned (.tuple #[.int .i64 (eDivide op a b).1, .int .i64 (eDivide op a b).2]) ∧ w = w' := by
  have hm := Lib.hid (minus_any 0 a w ⟨by omega, by omega⟩ ha)
  obtain ⟨ha1, ha2⟩ := ha
  obtain ⟨hb1, hb2⟩ := hb
  by_cases hb0 : b = 0
  · subst hb0
    rcases ho with rfl | rfl
    all_goals
      go_enter Tryz.func81, Tryz.ntmps81
      go_wp2_with fail
      go_ret2
      exact ⟨rfl, rfl⟩
  · by_cases hb1 : b = -1
    · subst hb1
      rcases ho with rfl | rfl
      · have e : eDivide 7 a (-1) = chk (-a) := by unfold eDivide; simp
        rw [e]
        clear e
        rw [Int.zero_sub] at hm
        go_enter Tryz.func81, Tryz.ntmps81
        go_wp2_with (refine hm.out.mono ?_; rintro e w' ⟨rfl, rfl⟩)
        go_ret2
        exact ⟨rfl, rfl⟩
      · have e : eDivide 8 a (-1) = (0, 0) := by unfold eDivide; simp
        rw [e]
        clear e
        go_enter Tryz.func81, Tryz.ntmps81
        go_wp2_with fail
        go_ret2
        exact ⟨rfl, rfl⟩
    · have c0 : (b == 0) = false := beq_eq_false_iff_ne.2 hb0
      have c1 : (b == -1) = false := beq_eq_false_iff_ne.2 hb1
      rcases ho with rfl | rfl
      all_goals
        go_enter Tryz.func81, Tryz.ntmps81
        go_wp2_with fail
        go_ret2
        refine ⟨ret_int2 ?_, rfl⟩
        unfold eDivide
        rw [if_neg hb0]
        first
        | rfl
        | (rw [if_neg (by omega)]
           have ht := tdiv_fits ha1 ha2 hb0 hb1
           unfold chk
           rw [if_pos ht, IntWalk.wrap64_in _ ht])

set_option maxHeartbeats 1000000 in
theorem two_any (op a b : Int) (w : World) (h4 : 4 ≤ op) (h16 : op ≤ 16) (ha : Fits a) (hb : Fits b) : Calls Tryz.prog 50 #[.int .i64 op, .int .i64 a, .int .i64 b] w fun e w' => e = .returned (.tuple #[.int .i64 (eTwo op a b).1, .int .i64 (eTwo op a b).2]) ∧ w = w' := by
  have h1 := Lib.hid (plus_any a b w ha hb)
  have h2 := Lib.hid (minus_any a b w ha hb)
  have h3 := Lib.hid (times_any a b w ha hb)
  have hop : op = 4 ∨ op = 5 ∨ op = 6 ∨ op = 7 ∨ op = 8 ∨ op = 9 ∨ op = 10 ∨ op = 11 ∨ op = 12 ∨ op = 13 ∨ op = 14 ∨ op = 15 ∨ op = 16 := by omega
  clear h4 h16
  rcases hop with rfl | rfl | rfl | rfl | rfl | rfl | rfl | rfl | rfl | rfl | rfl | rfl | rfl
  all_goals
    have HA := Lib.hid ha
    have HB := Lib.hid hb
    clear ha hb
    go_enter Tryz.func50, Tryz.ntmps50
    go_wp2_with (first
      | (go_at_call 49; refine (truth_any _ _).mono ?_; rintro e w' ⟨rfl, rfl⟩)
      | (go_at_call 79; refine h1.out.mono ?_; rintro e w' ⟨rfl, rfl⟩)
      | (go_at_call 48; refine h2.out.mono ?_; rintro e w' ⟨rfl, rfl⟩)
      | (go_at_call 80; refine h3.out.mono ?_; rintro e w' ⟨rfl, rfl⟩)
      | (go_at_call 81; refine (divide_any _ a b _ (by omega) HA.out HB.out).mono ?_; rintro e w' ⟨rfl, rfl⟩))
    all_goals
      go_ret2
      refine ⟨?_, rfl⟩
      first
      | rfl
      | (simp [eTwo, b01, *]; done)
end Go.Proofs.YtgaiheojlmebaaaGreatDoor
