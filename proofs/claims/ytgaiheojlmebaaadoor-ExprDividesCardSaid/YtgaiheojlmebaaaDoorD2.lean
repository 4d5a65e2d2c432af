/- The law of quotients: the walk, by ways. (printed by gen_div.py) -/
import Derived.Test.YtgaiheojlmebaaaDoorD1
namespace Go.Proofs.YtgaiheojlmebaaaDoor
open Go Go.RowKit Go.Lib

set_option maxHeartbeats 4000000 in
set_option maxRecDepth 100000 in
theorem div_out (w : World) (hT : Tabs w) :
    Calls Tryd.prog 10 #[.int .i64 (-9223372036854775808), .int .i64 (-1)] w fun r w' => r = .returned (.bool true) ∧ Below w.heap.size w w' := by
  have ha : Fits (-9223372036854775808) := ⟨by decide, by decide⟩
  have hb : Fits (-1) := ⟨by decide, by decide⟩
  have e7 : eTwo 7 (-9223372036854775808) (-1) = (0, 22) := by kernel_rfl
  have e8 : eTwo 8 (-9223372036854775808) (-1) = (0, 0) := by kernel_rfl
  have HT := Lib.hid hT
  have HA := Lib.hid ha
  have HB := Lib.hid hb
  have E7 := Lib.hid e7
  have E8 := Lib.hid e8
  clear hT ha hb e7 e8
  go_enter Tryd.func10, Tryd.ntmps10
  go_wp2_with fail
  refine (awake_any w HT.out).mono ?_
  rintro r w1 ⟨rfl, hb1⟩
  have H1 := Lib.hid (Hold.mk (HT.out.below hb1) hb1)
  clear hb1
  go_wp2_with fail
  obtain ⟨w2, hw2⟩ : ∃ w2, w1.alloc (.cells #[.string ⟨#[97]⟩, .int .i64 (-9223372036854775808), .string ⟨#[98]⟩, .int .i64 (-1)] 44 (0, 0)) = w2 := ⟨_, rfl⟩
  have hb2 : Below w1.heap.size w1 w2 := hw2 ▸ (Below.refl _ _).alloc (Nat.le_refl _) _
  have hK2 : EnvB w2 w1.heap.size (-9223372036854775808) (-1) := hw2 ▸ heap_alloc_new _ _
  obtain ⟨K, hK⟩ : ∃ K, w1.heap.size = K := ⟨_, rfl⟩
  rw [hw2, hK]
  rw [hK] at hK2
  have H2 := Lib.hid (H1.out.step hb2)
  have N2 := Lib.hid hK2
  clear hb2 hK2 hw2 hK
  refine (pair_any 7 w2).mono ?_
  rintro r w3 ⟨B3, rfl, hx3, hb3⟩
  have H3 := Lib.hid (H2.out.step hb3)
  have N3 := Lib.hid (N2.out.step hb3)
  have X3 := Lib.hid hx3
  clear hx3 hb3
  go_wp2_with fail
  refine (evalpair_any 7 (-9223372036854775808) (-1) (by decide) (by decide) HA.out HB.out B3 K _ w3 X3.out N3.out H3.out.tabs).mono ?_
  rw [E7.out]
  rintro r w4 ⟨rfl, hb4⟩
  have H4 := Lib.hid (H3.out.step hb4)
  have N4 := Lib.hid (N3.out.step hb4)
  clear hb4
  go_wp2_with fail
  refine (pair_any 8 w4).mono ?_
  rintro r w5 ⟨B5, rfl, hx5, hb5⟩
  have H5 := Lib.hid (H4.out.step hb5)
  have N5 := Lib.hid (N4.out.step hb5)
  have X5 := Lib.hid hx5
  clear hx5 hb5
  go_wp2_with fail
  refine (evalpair_any 8 (-9223372036854775808) (-1) (by decide) (by decide) HA.out HB.out B5 K _ w5 X5.out N5.out H5.out.tabs).mono ?_
  rw [E8.out]
  rintro r w6 ⟨rfl, hb6⟩
  have H6 := Lib.hid (H5.out.step hb6)
  clear hb6
  go_wp2_with fail
  go_ret
  exact ⟨rfl, H6.out.below⟩

set_option maxHeartbeats 4000000 in
set_option maxRecDepth 100000 in
theorem div_np (a b q r p : Int) (w : World) (hT : Tabs w) (ha : Fits a) (hb : Fits b) (hq : Fits q) (hr : Fits r) (hp : Fits p)
    (e7 : eTwo 7 a b = (q, 0)) (e8 : eTwo 8 a b = (r, 0)) (e6 : eTwo 6 q b = (p, 0)) (e4 : eTwo 4 p r = (a, 0)) (h0 : b ≠ 0) (hs : r < 0) (hsa : a ≤ 0) (hd : 0 < b) (hd1 : r < b) (hd2 : -b < r) :
    Calls Tryd.prog 10 #[.int .i64 a, .int .i64 b] w fun r w' => r = .returned (.bool true) ∧ Below w.heap.size w w' := by
  have h0b : (b == 0) = false := beq_eq_false_iff_ne.2 h0
  have s1 : decide (0 < r) = false := decide_eq_false (by omega)
  have s2 : decide (r < 0) = true := decide_eq_true hs
  have s3 : decide (0 < a) = false := decide_eq_false (by omega)
  have s4 : decide (r ≤ 0) = true := decide_eq_true (by omega)
  have d1 : decide (0 < b) = true := decide_eq_true hd
  have d2 : decide (r < b) = true := decide_eq_true hd1
  have d3 : decide (-b < r) = true := decide_eq_true hd2
  have d4 : IntKind.i64.wrap (-b) = -b := IntWalk.i64_in _ (by omega)
  have HQ := Lib.hid hq
  have HR := Lib.hid hr
  have HP := Lib.hid hp
  have E6 := Lib.hid e6
  have E4 := Lib.hid e4
  clear e6 e4 hq hr hp h0 hs hsa hd hd1 hd2
  have HT := Lib.hid hT
  have HA := Lib.hid ha
  have HB := Lib.hid hb
  have E7 := Lib.hid e7
  have E8 := Lib.hid e8
  clear hT ha hb e7 e8
  go_enter Tryd.func10, Tryd.ntmps10
  go_wp2_with fail
  refine (awake_any w HT.out).mono ?_
  rintro r' w1 ⟨rfl, hb1⟩
  have H1 := Lib.hid (Hold.mk (HT.out.below hb1) hb1)
  clear hb1
  go_wp2_with fail
  obtain ⟨w2, hw2⟩ : ∃ w2, w1.alloc (.cells #[.string ⟨#[97]⟩, .int .i64 a, .string ⟨#[98]⟩, .int .i64 b] 44 (0, 0)) = w2 := ⟨_, rfl⟩
  have hb2 : Below w1.heap.size w1 w2 := hw2 ▸ (Below.refl _ _).alloc (Nat.le_refl _) _
  have hK2 : EnvB w2 w1.heap.size a b := hw2 ▸ heap_alloc_new _ _
  obtain ⟨K, hK⟩ : ∃ K, w1.heap.size = K := ⟨_, rfl⟩
  rw [hw2, hK]
  rw [hK] at hK2
  have H2 := Lib.hid (H1.out.step hb2)
  have N2 := Lib.hid hK2
  clear hb2 hK2 hw2 hK
  refine (pair_any 7 w2).mono ?_
  rintro r' w3 ⟨B3, rfl, hx3, hb3⟩
  have H3 := Lib.hid (H2.out.step hb3)
  have N3 := Lib.hid (N2.out.step hb3)
  have X3 := Lib.hid hx3
  clear hx3 hb3
  go_wp2_with fail
  refine (evalpair_any 7 a b (by decide) (by decide) HA.out HB.out B3 K _ w3 X3.out N3.out H3.out.tabs).mono ?_
  rw [E7.out]
  rintro r' w4 ⟨rfl, hb4⟩
  have H4 := Lib.hid (H3.out.step hb4)
  have N4 := Lib.hid (N3.out.step hb4)
  clear hb4
  go_wp2_with fail
  refine (pair_any 8 w4).mono ?_
  rintro r' w5 ⟨B5, rfl, hx5, hb5⟩
  have H5 := Lib.hid (H4.out.step hb5)
  have N5 := Lib.hid (N4.out.step hb5)
  have X5 := Lib.hid hx5
  clear hx5 hb5
  go_wp2_with fail
  refine (evalpair_any 8 a b (by decide) (by decide) HA.out HB.out B5 K _ w5 X5.out N5.out H5.out.tabs).mono ?_
  rw [E8.out]
  rintro r' w6 ⟨rfl, hb6⟩
  have H6 := Lib.hid (H5.out.step hb6)
  clear hb6
  go_wp2_with fail
  refine (pair_any 6 w6).mono ?_
  rintro r' w7 ⟨B7, rfl, hx7, hb7⟩
  have H7 := Lib.hid (H6.out.step hb7)
  have X7 := Lib.hid hx7
  clear hx7 hb7
  go_wp2_with fail
  obtain ⟨w8, hw8⟩ : ∃ w', w7.alloc (.cells #[.string ⟨#[97]⟩, .int .i64 q, .string ⟨#[98]⟩, .int .i64 b] 44 (0, 0)) = w' := ⟨_, rfl⟩
  have hb8 : Below w7.heap.size w7 w8 := hw8 ▸ (Below.refl _ _).alloc (Nat.le_refl _) _
  have hK8 : EnvB w8 w7.heap.size q b := hw8 ▸ heap_alloc_new _ _
  have H8 := Lib.hid (H7.out.step hb8)
  have X8 := Lib.hid (X7.out.below hb8)
  have N8 := Lib.hid hK8
  rw [hw8]
  refine (evalpair_any 6 q b (by decide) (by decide) HQ.out HB.out B7 _ _ w8 X8.out N8.out H8.out.tabs).mono ?_
  rw [E6.out]
  rintro r' w9 ⟨rfl, hb9⟩
  have H9 := Lib.hid (H8.out.step hb9)
  clear hb8 hK8 hw8 hb9
  go_wp2_with fail
  refine (pair_any 4 w9).mono ?_
  rintro r' w10 ⟨B10, rfl, hx10, hb10⟩
  have H10 := Lib.hid (H9.out.step hb10)
  have X10 := Lib.hid hx10
  clear hx10 hb10
  go_wp2_with fail
  obtain ⟨w11, hw11⟩ : ∃ w', w10.alloc (.cells #[.string ⟨#[97]⟩, .int .i64 p, .string ⟨#[98]⟩, .int .i64 r] 44 (0, 0)) = w' := ⟨_, rfl⟩
  have hb11 : Below w10.heap.size w10 w11 := hw11 ▸ (Below.refl _ _).alloc (Nat.le_refl _) _
  have hK11 : EnvB w11 w10.heap.size p r := hw11 ▸ heap_alloc_new _ _
  have H11 := Lib.hid (H10.out.step hb11)
  have X11 := Lib.hid (X10.out.below hb11)
  have N11 := Lib.hid hK11
  rw [hw11]
  refine (evalpair_any 4 p r (by decide) (by decide) HP.out HR.out B10 _ _ w11 X11.out N11.out H11.out.tabs).mono ?_
  rw [E4.out]
  rintro r' w12 ⟨rfl, hb12⟩
  have H12 := Lib.hid (H11.out.step hb12)
  clear hb11 hK11 hw11 hb12
  go_wp2_with fail
  go_ret
  exact ⟨rfl, H12.out.below⟩

set_option maxHeartbeats 4000000 in
set_option maxRecDepth 100000 in
theorem div_nn (a b q r p : Int) (w : World) (hT : Tabs w) (ha : Fits a) (hb : Fits b) (hq : Fits q) (hr : Fits r) (hp : Fits p)
    (e7 : eTwo 7 a b = (q, 0)) (e8 : eTwo 8 a b = (r, 0)) (e6 : eTwo 6 q b = (p, 0)) (e4 : eTwo 4 p r = (a, 0)) (h0 : b ≠ 0) (hs : r < 0) (hsa : a ≤ 0) (hd : b < 0) (hd1 : b < r) (hd2 : b < -r) :
    Calls Tryd.prog 10 #[.int .i64 a, .int .i64 b] w fun r w' => r = .returned (.bool true) ∧ Below w.heap.size w w' := by
  have h0b : (b == 0) = false := beq_eq_false_iff_ne.2 h0
  have s1 : decide (0 < r) = false := decide_eq_false (by omega)
  have s2 : decide (r < 0) = true := decide_eq_true hs
  have s3 : decide (0 < a) = false := decide_eq_false (by omega)
  have s4 : decide (r ≤ 0) = true := decide_eq_true (by omega)
  have d1 : decide (0 < b) = false := decide_eq_false (by omega)
  have d2 : decide (b < r) = true := decide_eq_true hd1
  have d3 : decide (b < -r) = true := decide_eq_true hd2
  have d4 : IntKind.i64.wrap (-r) = -r := IntWalk.i64_in _ (by omega)
  have HQ := Lib.hid hq
  have HR := Lib.hid hr
  have HP := Lib.hid hp
  have E6 := Lib.hid e6
  have E4 := Lib.hid e4
  clear e6 e4 hq hr hp h0 hs hsa hd hd1 hd2
  have HT := Lib.hid hT
  have HA := Lib.hid ha
  have HB := Lib.hid hb
  have E7 := Lib.hid e7
  have E8 := Lib.hid e8
  clear hT ha hb e7 e8
  go_enter Tryd.func10, Tryd.ntmps10
  go_wp2_with fail
  refine (awake_any w HT.out).mono ?_
  rintro r' w1 ⟨rfl, hb1⟩
  have H1 := Lib.hid (Hold.mk (HT.out.below hb1) hb1)
  clear hb1
  go_wp2_with fail
  obtain ⟨w2, hw2⟩ : ∃ w2, w1.alloc (.cells #[.string ⟨#[97]⟩, .int .i64 a, .string ⟨#[98]⟩, .int .i64 b] 44 (0, 0)) = w2 := ⟨_, rfl⟩
  have hb2 : Below w1.heap.size w1 w2 := hw2 ▸ (Below.refl _ _).alloc (Nat.le_refl _) _
  have hK2 : EnvB w2 w1.heap.size a b := hw2 ▸ heap_alloc_new _ _
  obtain ⟨K, hK⟩ : ∃ K, w1.heap.size = K := ⟨_, rfl⟩
  rw [hw2, hK]
  rw [hK] at hK2
  have H2 := Lib.hid (H1.out.step hb2)
  have N2 := Lib.hid hK2
  clear hb2 hK2 hw2 hK
  refine (pair_any 7 w2).mono ?_
  rintro r' w3 ⟨B3, rfl, hx3, hb3⟩
  have H3 := Lib.hid (H2.out.step hb3)
  have N3 := Lib.hid (N2.out.step hb3)
  have X3 := Lib.hid hx3
  clear hx3 hb3
  go_wp2_with fail
  refine (evalpair_any 7 a b (by decide) (by decide) HA.out HB.out B3 K _ w3 X3.out N3.out H3.out.tabs).mono ?_
  rw [E7.out]
  rintro r' w4 ⟨rfl, hb4⟩
  have H4 := Lib.hid (H3.out.step hb4)
  have N4 := Lib.hid (N3.out.step hb4)
  clear hb4
  go_wp2_with fail
  refine (pair_any 8 w4).mono ?_
  rintro r' w5 ⟨B5, rfl, hx5, hb5⟩
  have H5 := Lib.hid (H4.out.step hb5)
  have N5 := Lib.hid (N4.out.step hb5)
  have X5 := Lib.hid hx5
  clear hx5 hb5
  go_wp2_with fail
  refine (evalpair_any 8 a b (by decide) (by decide) HA.out HB.out B5 K _ w5 X5.out N5.out H5.out.tabs).mono ?_
  rw [E8.out]
  rintro r' w6 ⟨rfl, hb6⟩
  have H6 := Lib.hid (H5.out.step hb6)
  clear hb6
  go_wp2_with fail
  refine (pair_any 6 w6).mono ?_
  rintro r' w7 ⟨B7, rfl, hx7, hb7⟩
  have H7 := Lib.hid (H6.out.step hb7)
  have X7 := Lib.hid hx7
  clear hx7 hb7
  go_wp2_with fail
  obtain ⟨w8, hw8⟩ : ∃ w', w7.alloc (.cells #[.string ⟨#[97]⟩, .int .i64 q, .string ⟨#[98]⟩, .int .i64 b] 44 (0, 0)) = w' := ⟨_, rfl⟩
  have hb8 : Below w7.heap.size w7 w8 := hw8 ▸ (Below.refl _ _).alloc (Nat.le_refl _) _
  have hK8 : EnvB w8 w7.heap.size q b := hw8 ▸ heap_alloc_new _ _
  have H8 := Lib.hid (H7.out.step hb8)
  have X8 := Lib.hid (X7.out.below hb8)
  have N8 := Lib.hid hK8
  rw [hw8]
  refine (evalpair_any 6 q b (by decide) (by decide) HQ.out HB.out B7 _ _ w8 X8.out N8.out H8.out.tabs).mono ?_
  rw [E6.out]
  rintro r' w9 ⟨rfl, hb9⟩
  have H9 := Lib.hid (H8.out.step hb9)
  clear hb8 hK8 hw8 hb9
  go_wp2_with fail
  refine (pair_any 4 w9).mono ?_
  rintro r' w10 ⟨B10, rfl, hx10, hb10⟩
  have H10 := Lib.hid (H9.out.step hb10)
  have X10 := Lib.hid hx10
  clear hx10 hb10
  go_wp2_with fail
  obtain ⟨w11, hw11⟩ : ∃ w', w10.alloc (.cells #[.string ⟨#[97]⟩, .int .i64 p, .string ⟨#[98]⟩, .int .i64 r] 44 (0, 0)) = w' := ⟨_, rfl⟩
  have hb11 : Below w10.heap.size w10 w11 := hw11 ▸ (Below.refl _ _).alloc (Nat.le_refl _) _
  have hK11 : EnvB w11 w10.heap.size p r := hw11 ▸ heap_alloc_new _ _
  have H11 := Lib.hid (H10.out.step hb11)
  have X11 := Lib.hid (X10.out.below hb11)
  have N11 := Lib.hid hK11
  rw [hw11]
  refine (evalpair_any 4 p r (by decide) (by decide) HP.out HR.out B10 _ _ w11 X11.out N11.out H11.out.tabs).mono ?_
  rw [E4.out]
  rintro r' w12 ⟨rfl, hb12⟩
  have H12 := Lib.hid (H11.out.step hb12)
  clear hb11 hK11 hw11 hb12
  go_wp2_with fail
  go_ret
  exact ⟨rfl, H12.out.below⟩

set_option maxHeartbeats 4000000 in
set_option maxRecDepth 100000 in
theorem div_zp (a b q r p : Int) (w : World) (hT : Tabs w) (ha : Fits a) (hb : Fits b) (hq : Fits q) (hr : Fits r) (hp : Fits p)
    (e7 : eTwo 7 a b = (q, 0)) (e8 : eTwo 8 a b = (r, 0)) (e6 : eTwo 6 q b = (p, 0)) (e4 : eTwo 4 p r = (a, 0)) (h0 : b ≠ 0) (hs : r = 0) (hd : 0 < b) (hd1 : r < b) (hd2 : -b < r) :
    Calls Tryd.prog 10 #[.int .i64 a, .int .i64 b] w fun r w' => r = .returned (.bool true) ∧ Below w.heap.size w w' := by
  have h0b : (b == 0) = false := beq_eq_false_iff_ne.2 h0
  have s1 : decide (0 < r) = false := decide_eq_false (by omega)
  have s2 : decide (r < 0) = false := decide_eq_false (by omega)
  have s4 : decide (r ≤ 0) = true := decide_eq_true (by omega)
  have d1 : decide (0 < b) = true := decide_eq_true hd
  have d2 : decide (r < b) = true := decide_eq_true hd1
  have d3 : decide (-b < r) = true := decide_eq_true hd2
  have d4 : IntKind.i64.wrap (-b) = -b := IntWalk.i64_in _ (by omega)
  have HQ := Lib.hid hq
  have HR := Lib.hid hr
  have HP := Lib.hid hp
  have E6 := Lib.hid e6
  have E4 := Lib.hid e4
  clear e6 e4 hq hr hp h0 hs hd hd1 hd2
  have HT := Lib.hid hT
  have HA := Lib.hid ha
  have HB := Lib.hid hb
  have E7 := Lib.hid e7
  have E8 := Lib.hid e8
  clear hT ha hb e7 e8
  go_enter Tryd.func10, Tryd.ntmps10
  go_wp2_with fail
  refine (awake_any w HT.out).mono ?_
  rintro r' w1 ⟨rfl, hb1⟩
  have H1 := Lib.hid (Hold.mk (HT.out.below hb1) hb1)
  clear hb1
  go_wp2_with fail
  obtain ⟨w2, hw2⟩ : ∃ w2, w1.alloc (.cells #[.string ⟨#[97]⟩, .int .i64 a, .string ⟨#[98]⟩, .int .i64 b] 44 (0, 0)) = w2 := ⟨_, rfl⟩
  have hb2 : Below w1.heap.size w1 w2 := hw2 ▸ (Below.refl _ _).alloc (Nat.le_refl _) _
  have hK2 : EnvB w2 w1.heap.size a b := hw2 ▸ heap_alloc_new _ _
  obtain ⟨K, hK⟩ : ∃ K, w1.heap.size = K := ⟨_, rfl⟩
  rw [hw2, hK]
  rw [hK] at hK2
  have H2 := Lib.hid (H1.out.step hb2)
  have N2 := Lib.hid hK2
  clear hb2 hK2 hw2 hK
  refine (pair_any 7 w2).mono ?_
  rintro r' w3 ⟨B3, rfl, hx3, hb3⟩
  have H3 := Lib.hid (H2.out.step hb3)
  have N3 := Lib.hid (N2.out.step hb3)
  have X3 := Lib.hid hx3
  clear hx3 hb3
  go_wp2_with fail
  refine (evalpair_any 7 a b (by decide) (by decide) HA.out HB.out B3 K _ w3 X3.out N3.out H3.out.tabs).mono ?_
  rw [E7.out]
  rintro r' w4 ⟨rfl, hb4⟩
  have H4 := Lib.hid (H3.out.step hb4)
  have N4 := Lib.hid (N3.out.step hb4)
  clear hb4
  go_wp2_with fail
  refine (pair_any 8 w4).mono ?_
  rintro r' w5 ⟨B5, rfl, hx5, hb5⟩
  have H5 := Lib.hid (H4.out.step hb5)
  have N5 := Lib.hid (N4.out.step hb5)
  have X5 := Lib.hid hx5
  clear hx5 hb5
  go_wp2_with fail
  refine (evalpair_any 8 a b (by decide) (by decide) HA.out HB.out B5 K _ w5 X5.out N5.out H5.out.tabs).mono ?_
  rw [E8.out]
  rintro r' w6 ⟨rfl, hb6⟩
  have H6 := Lib.hid (H5.out.step hb6)
  clear hb6
  go_wp2_with fail
  refine (pair_any 6 w6).mono ?_
  rintro r' w7 ⟨B7, rfl, hx7, hb7⟩
  have H7 := Lib.hid (H6.out.step hb7)
  have X7 := Lib.hid hx7
  clear hx7 hb7
  go_wp2_with fail
  obtain ⟨w8, hw8⟩ : ∃ w', w7.alloc (.cells #[.string ⟨#[97]⟩, .int .i64 q, .string ⟨#[98]⟩, .int .i64 b] 44 (0, 0)) = w' := ⟨_, rfl⟩
  have hb8 : Below w7.heap.size w7 w8 := hw8 ▸ (Below.refl _ _).alloc (Nat.le_refl _) _
  have hK8 : EnvB w8 w7.heap.size q b := hw8 ▸ heap_alloc_new _ _
  have H8 := Lib.hid (H7.out.step hb8)
  have X8 := Lib.hid (X7.out.below hb8)
  have N8 := Lib.hid hK8
  rw [hw8]
  refine (evalpair_any 6 q b (by decide) (by decide) HQ.out HB.out B7 _ _ w8 X8.out N8.out H8.out.tabs).mono ?_
  rw [E6.out]
  rintro r' w9 ⟨rfl, hb9⟩
  have H9 := Lib.hid (H8.out.step hb9)
  clear hb8 hK8 hw8 hb9
  go_wp2_with fail
  refine (pair_any 4 w9).mono ?_
  rintro r' w10 ⟨B10, rfl, hx10, hb10⟩
  have H10 := Lib.hid (H9.out.step hb10)
  have X10 := Lib.hid hx10
  clear hx10 hb10
  go_wp2_with fail
  obtain ⟨w11, hw11⟩ : ∃ w', w10.alloc (.cells #[.string ⟨#[97]⟩, .int .i64 p, .string ⟨#[98]⟩, .int .i64 r] 44 (0, 0)) = w' := ⟨_, rfl⟩
  have hb11 : Below w10.heap.size w10 w11 := hw11 ▸ (Below.refl _ _).alloc (Nat.le_refl _) _
  have hK11 : EnvB w11 w10.heap.size p r := hw11 ▸ heap_alloc_new _ _
  have H11 := Lib.hid (H10.out.step hb11)
  have X11 := Lib.hid (X10.out.below hb11)
  have N11 := Lib.hid hK11
  rw [hw11]
  refine (evalpair_any 4 p r (by decide) (by decide) HP.out HR.out B10 _ _ w11 X11.out N11.out H11.out.tabs).mono ?_
  rw [E4.out]
  rintro r' w12 ⟨rfl, hb12⟩
  have H12 := Lib.hid (H11.out.step hb12)
  clear hb11 hK11 hw11 hb12
  go_wp2_with fail
  go_ret
  exact ⟨rfl, H12.out.below⟩

set_option maxHeartbeats 4000000 in
set_option maxRecDepth 100000 in
theorem div_zn (a b q r p : Int) (w : World) (hT : Tabs w) (ha : Fits a) (hb : Fits b) (hq : Fits q) (hr : Fits r) (hp : Fits p)
    (e7 : eTwo 7 a b = (q, 0)) (e8 : eTwo 8 a b = (r, 0)) (e6 : eTwo 6 q b = (p, 0)) (e4 : eTwo 4 p r = (a, 0)) (h0 : b ≠ 0) (hs : r = 0) (hd : b < 0) (hd1 : b < r) (hd2 : b < -r) :
    Calls Tryd.prog 10 #[.int .i64 a, .int .i64 b] w fun r w' => r = .returned (.bool true) ∧ Below w.heap.size w w' := by
  have h0b : (b == 0) = false := beq_eq_false_iff_ne.2 h0
  have s1 : decide (0 < r) = false := decide_eq_false (by omega)
  have s2 : decide (r < 0) = false := decide_eq_false (by omega)
  have s4 : decide (r ≤ 0) = true := decide_eq_true (by omega)
  have d1 : decide (0 < b) = false := decide_eq_false (by omega)
  have d2 : decide (b < r) = true := decide_eq_true hd1
  have d3 : decide (b < -r) = true := decide_eq_true hd2
  have d4 : IntKind.i64.wrap (-r) = -r := IntWalk.i64_in _ (by omega)
  have HQ := Lib.hid hq
  have HR := Lib.hid hr
  have HP := Lib.hid hp
  have E6 := Lib.hid e6
  have E4 := Lib.hid e4
  clear e6 e4 hq hr hp h0 hs hd hd1 hd2
  have HT := Lib.hid hT
  have HA := Lib.hid ha
  have HB := Lib.hid hb
  have E7 := Lib.hid e7
  have E8 := Lib.hid e8
  clear hT ha hb e7 e8
  go_enter Tryd.func10, Tryd.ntmps10
  go_wp2_with fail
  refine (awake_any w HT.out).mono ?_
  rintro r' w1 ⟨rfl, hb1⟩
  have H1 := Lib.hid (Hold.mk (HT.out.below hb1) hb1)
  clear hb1
  go_wp2_with fail
  obtain ⟨w2, hw2⟩ : ∃ w2, w1.alloc (.cells #[.string ⟨#[97]⟩, .int .i64 a, .string ⟨#[98]⟩, .int .i64 b] 44 (0, 0)) = w2 := ⟨_, rfl⟩
  have hb2 : Below w1.heap.size w1 w2 := hw2 ▸ (Below.refl _ _).alloc (Nat.le_refl _) _
  have hK2 : EnvB w2 w1.heap.size a b := hw2 ▸ heap_alloc_new _ _
  obtain ⟨K, hK⟩ : ∃ K, w1.heap.size = K := ⟨_, rfl⟩
  rw [hw2, hK]
  rw [hK] at hK2
  have H2 := Lib.hid (H1.out.step hb2)
  have N2 := Lib.hid hK2
  clear hb2 hK2 hw2 hK
  refine (pair_any 7 w2).mono ?_
  rintro r' w3 ⟨B3, rfl, hx3, hb3⟩
  have H3 := Lib.hid (H2.out.step hb3)
  have N3 := Lib.hid (N2.out.step hb3)
  have X3 := Lib.hid hx3
  clear hx3 hb3
  go_wp2_with fail
  refine (evalpair_any 7 a b (by decide) (by decide) HA.out HB.out B3 K _ w3 X3.out N3.out H3.out.tabs).mono ?_
  rw [E7.out]
  rintro r' w4 ⟨rfl, hb4⟩
  have H4 := Lib.hid (H3.out.step hb4)
  have N4 := Lib.hid (N3.out.step hb4)
  clear hb4
  go_wp2_with fail
  refine (pair_any 8 w4).mono ?_
  rintro r' w5 ⟨B5, rfl, hx5, hb5⟩
  have H5 := Lib.hid (H4.out.step hb5)
  have N5 := Lib.hid (N4.out.step hb5)
  have X5 := Lib.hid hx5
  clear hx5 hb5
  go_wp2_with fail
  refine (evalpair_any 8 a b (by decide) (by decide) HA.out HB.out B5 K _ w5 X5.out N5.out H5.out.tabs).mono ?_
  rw [E8.out]
  rintro r' w6 ⟨rfl, hb6⟩
  have H6 := Lib.hid (H5.out.step hb6)
  clear hb6
  go_wp2_with fail
  refine (pair_any 6 w6).mono ?_
  rintro r' w7 ⟨B7, rfl, hx7, hb7⟩
  have H7 := Lib.hid (H6.out.step hb7)
  have X7 := Lib.hid hx7
  clear hx7 hb7
  go_wp2_with fail
  obtain ⟨w8, hw8⟩ : ∃ w', w7.alloc (.cells #[.string ⟨#[97]⟩, .int .i64 q, .string ⟨#[98]⟩, .int .i64 b] 44 (0, 0)) = w' := ⟨_, rfl⟩
  have hb8 : Below w7.heap.size w7 w8 := hw8 ▸ (Below.refl _ _).alloc (Nat.le_refl _) _
  have hK8 : EnvB w8 w7.heap.size q b := hw8 ▸ heap_alloc_new _ _
  have H8 := Lib.hid (H7.out.step hb8)
  have X8 := Lib.hid (X7.out.below hb8)
  have N8 := Lib.hid hK8
  rw [hw8]
  refine (evalpair_any 6 q b (by decide) (by decide) HQ.out HB.out B7 _ _ w8 X8.out N8.out H8.out.tabs).mono ?_
  rw [E6.out]
  rintro r' w9 ⟨rfl, hb9⟩
  have H9 := Lib.hid (H8.out.step hb9)
  clear hb8 hK8 hw8 hb9
  go_wp2_with fail
  refine (pair_any 4 w9).mono ?_
  rintro r' w10 ⟨B10, rfl, hx10, hb10⟩
  have H10 := Lib.hid (H9.out.step hb10)
  have X10 := Lib.hid hx10
  clear hx10 hb10
  go_wp2_with fail
  obtain ⟨w11, hw11⟩ : ∃ w', w10.alloc (.cells #[.string ⟨#[97]⟩, .int .i64 p, .string ⟨#[98]⟩, .int .i64 r] 44 (0, 0)) = w' := ⟨_, rfl⟩
  have hb11 : Below w10.heap.size w10 w11 := hw11 ▸ (Below.refl _ _).alloc (Nat.le_refl _) _
  have hK11 : EnvB w11 w10.heap.size p r := hw11 ▸ heap_alloc_new _ _
  have H11 := Lib.hid (H10.out.step hb11)
  have X11 := Lib.hid (X10.out.below hb11)
  have N11 := Lib.hid hK11
  rw [hw11]
  refine (evalpair_any 4 p r (by decide) (by decide) HP.out HR.out B10 _ _ w11 X11.out N11.out H11.out.tabs).mono ?_
  rw [E4.out]
  rintro r' w12 ⟨rfl, hb12⟩
  have H12 := Lib.hid (H11.out.step hb12)
  clear hb11 hK11 hw11 hb12
  go_wp2_with fail
  go_ret
  exact ⟨rfl, H12.out.below⟩

set_option maxHeartbeats 4000000 in
set_option maxRecDepth 100000 in
theorem div_pp (a b q r p : Int) (w : World) (hT : Tabs w) (ha : Fits a) (hb : Fits b) (hq : Fits q) (hr : Fits r) (hp : Fits p)
    (e7 : eTwo 7 a b = (q, 0)) (e8 : eTwo 8 a b = (r, 0)) (e6 : eTwo 6 q b = (p, 0)) (e4 : eTwo 4 p r = (a, 0)) (h0 : b ≠ 0) (hs : 0 < r) (hsa : 0 ≤ a) (hd : 0 < b) (hd1 : r < b) (hd2 : -b < r) :
    Calls Tryd.prog 10 #[.int .i64 a, .int .i64 b] w fun r w' => r = .returned (.bool true) ∧ Below w.heap.size w w' := by
  have h0b : (b == 0) = false := beq_eq_false_iff_ne.2 h0
  have s1 : decide (0 < r) = true := decide_eq_true hs
  have s2 : decide (r < 0) = false := decide_eq_false (by omega)
  have s3 : decide (a < 0) = false := decide_eq_false (by omega)
  have s4 : decide (r ≤ 0) = false := decide_eq_false (by omega)
  have d1 : decide (0 < b) = true := decide_eq_true hd
  have d2 : decide (r < b) = true := decide_eq_true hd1
  have d3 : decide (-b < r) = true := decide_eq_true hd2
  have d4 : IntKind.i64.wrap (-b) = -b := IntWalk.i64_in _ (by omega)
  have HQ := Lib.hid hq
  have HR := Lib.hid hr
  have HP := Lib.hid hp
  have E6 := Lib.hid e6
  have E4 := Lib.hid e4
  clear e6 e4 hq hr hp h0 hs hsa hd hd1 hd2
  have HT := Lib.hid hT
  have HA := Lib.hid ha
  have HB := Lib.hid hb
  have E7 := Lib.hid e7
  have E8 := Lib.hid e8
  clear hT ha hb e7 e8
  go_enter Tryd.func10, Tryd.ntmps10
  go_wp2_with fail
  refine (awake_any w HT.out).mono ?_
  rintro r' w1 ⟨rfl, hb1⟩
  have H1 := Lib.hid (Hold.mk (HT.out.below hb1) hb1)
  clear hb1
  go_wp2_with fail
  obtain ⟨w2, hw2⟩ : ∃ w2, w1.alloc (.cells #[.string ⟨#[97]⟩, .int .i64 a, .string ⟨#[98]⟩, .int .i64 b] 44 (0, 0)) = w2 := ⟨_, rfl⟩
  have hb2 : Below w1.heap.size w1 w2 := hw2 ▸ (Below.refl _ _).alloc (Nat.le_refl _) _
  have hK2 : EnvB w2 w1.heap.size a b := hw2 ▸ heap_alloc_new _ _
  obtain ⟨K, hK⟩ : ∃ K, w1.heap.size = K := ⟨_, rfl⟩
  rw [hw2, hK]
  rw [hK] at hK2
  have H2 := Lib.hid (H1.out.step hb2)
  have N2 := Lib.hid hK2
  clear hb2 hK2 hw2 hK
  refine (pair_any 7 w2).mono ?_
  rintro r' w3 ⟨B3, rfl, hx3, hb3⟩
  have H3 := Lib.hid (H2.out.step hb3)
  have N3 := Lib.hid (N2.out.step hb3)
  have X3 := Lib.hid hx3
  clear hx3 hb3
  go_wp2_with fail
  refine (evalpair_any 7 a b (by decide) (by decide) HA.out HB.out B3 K _ w3 X3.out N3.out H3.out.tabs).mono ?_
  rw [E7.out]
  rintro r' w4 ⟨rfl, hb4⟩
  have H4 := Lib.hid (H3.out.step hb4)
  have N4 := Lib.hid (N3.out.step hb4)
  clear hb4
  go_wp2_with fail
  refine (pair_any 8 w4).mono ?_
  rintro r' w5 ⟨B5, rfl, hx5, hb5⟩
  have H5 := Lib.hid (H4.out.step hb5)
  have N5 := Lib.hid (N4.out.step hb5)
  have X5 := Lib.hid hx5
  clear hx5 hb5
  go_wp2_with fail
  refine (evalpair_any 8 a b (by decide) (by decide) HA.out HB.out B5 K _ w5 X5.out N5.out H5.out.tabs).mono ?_
  rw [E8.out]
  rintro r' w6 ⟨rfl, hb6⟩
  have H6 := Lib.hid (H5.out.step hb6)
  clear hb6
  go_wp2_with fail
  refine (pair_any 6 w6).mono ?_
  rintro r' w7 ⟨B7, rfl, hx7, hb7⟩
  have H7 := Lib.hid (H6.out.step hb7)
  have X7 := Lib.hid hx7
  clear hx7 hb7
  go_wp2_with fail
  obtain ⟨w8, hw8⟩ : ∃ w', w7.alloc (.cells #[.string ⟨#[97]⟩, .int .i64 q, .string ⟨#[98]⟩, .int .i64 b] 44 (0, 0)) = w' := ⟨_, rfl⟩
  have hb8 : Below w7.heap.size w7 w8 := hw8 ▸ (Below.refl _ _).alloc (Nat.le_refl _) _
  have hK8 : EnvB w8 w7.heap.size q b := hw8 ▸ heap_alloc_new _ _
  have H8 := Lib.hid (H7.out.step hb8)
  have X8 := Lib.hid (X7.out.below hb8)
  have N8 := Lib.hid hK8
  rw [hw8]
  refine (evalpair_any 6 q b (by decide) (by decide) HQ.out HB.out B7 _ _ w8 X8.out N8.out H8.out.tabs).mono ?_
  rw [E6.out]
  rintro r' w9 ⟨rfl, hb9⟩
  have H9 := Lib.hid (H8.out.step hb9)
  clear hb8 hK8 hw8 hb9
  go_wp2_with fail
  refine (pair_any 4 w9).mono ?_
  rintro r' w10 ⟨B10, rfl, hx10, hb10⟩
  have H10 := Lib.hid (H9.out.step hb10)
  have X10 := Lib.hid hx10
  clear hx10 hb10
  go_wp2_with fail
  obtain ⟨w11, hw11⟩ : ∃ w', w10.alloc (.cells #[.string ⟨#[97]⟩, .int .i64 p, .string ⟨#[98]⟩, .int .i64 r] 44 (0, 0)) = w' := ⟨_, rfl⟩
  have hb11 : Below w10.heap.size w10 w11 := hw11 ▸ (Below.refl _ _).alloc (Nat.le_refl _) _
  have hK11 : EnvB w11 w10.heap.size p r := hw11 ▸ heap_alloc_new _ _
  have H11 := Lib.hid (H10.out.step hb11)
  have X11 := Lib.hid (X10.out.below hb11)
  have N11 := Lib.hid hK11
  rw [hw11]
  refine (evalpair_any 4 p r (by decide) (by decide) HP.out HR.out B10 _ _ w11 X11.out N11.out H11.out.tabs).mono ?_
  rw [E4.out]
  rintro r' w12 ⟨rfl, hb12⟩
  have H12 := Lib.hid (H11.out.step hb12)
  clear hb11 hK11 hw11 hb12
  go_wp2_with fail
  go_ret
  exact ⟨rfl, H12.out.below⟩

set_option maxHeartbeats 4000000 in
set_option maxRecDepth 100000 in
theorem div_pn (a b q r p : Int) (w : World) (hT : Tabs w) (ha : Fits a) (hb : Fits b) (hq : Fits q) (hr : Fits r) (hp : Fits p)
    (e7 : eTwo 7 a b = (q, 0)) (e8 : eTwo 8 a b = (r, 0)) (e6 : eTwo 6 q b = (p, 0)) (e4 : eTwo 4 p r = (a, 0)) (h0 : b ≠ 0) (hs : 0 < r) (hsa : 0 ≤ a) (hd : b < 0) (hd1 : b < r) (hd2 : b < -r) :
    Calls Tryd.prog 10 #[.int .i64 a, .int .i64 b] w fun r w' => r = .returned (.bool true) ∧ Below w.heap.size w w' := by
  have h0b : (b == 0) = false := beq_eq_false_iff_ne.2 h0
  have s1 : decide (0 < r) = true := decide_eq_true hs
  have s2 : decide (r < 0) = false := decide_eq_false (by omega)
  have s3 : decide (a < 0) = false := decide_eq_false (by omega)
  have s4 : decide (r ≤ 0) = false := decide_eq_false (by omega)
  have d1 : decide (0 < b) = false := decide_eq_false (by omega)
  have d2 : decide (b < r) = true := decide_eq_true hd1
  have d3 : decide (b < -r) = true := decide_eq_true hd2
  have d4 : IntKind.i64.wrap (-r) = -r := IntWalk.i64_in _ (by omega)
  have HQ := Lib.hid hq
  have HR := Lib.hid hr
  have HP := Lib.hid hp
  have E6 := Lib.hid e6
  have E4 := Lib.hid e4
  clear e6 e4 hq hr hp h0 hs hsa hd hd1 hd2
  have HT := Lib.hid hT
  have HA := Lib.hid ha
  have HB := Lib.hid hb
  have E7 := Lib.hid e7
  have E8 := Lib.hid e8
  clear hT ha hb e7 e8
  go_enter Tryd.func10, Tryd.ntmps10
  go_wp2_with fail
  refine (awake_any w HT.out).mono ?_
  rintro r' w1 ⟨rfl, hb1⟩
  have H1 := Lib.hid (Hold.mk (HT.out.below hb1) hb1)
  clear hb1
  go_wp2_with fail
  obtain ⟨w2, hw2⟩ : ∃ w2, w1.alloc (.cells #[.string ⟨#[97]⟩, .int .i64 a, .string ⟨#[98]⟩, .int .i64 b] 44 (0, 0)) = w2 := ⟨_, rfl⟩
  have hb2 : Below w1.heap.size w1 w2 := hw2 ▸ (Below.refl _ _).alloc (Nat.le_refl _) _
  have hK2 : EnvB w2 w1.heap.size a b := hw2 ▸ heap_alloc_new _ _
  obtain ⟨K, hK⟩ : ∃ K, w1.heap.size = K := ⟨_, rfl⟩
  rw [hw2, hK]
  rw [hK] at hK2
  have H2 := Lib.hid (H1.out.step hb2)
  have N2 := Lib.hid hK2
  clear hb2 hK2 hw2 hK
  refine (pair_any 7 w2).mono ?_
  rintro r' w3 ⟨B3, rfl, hx3, hb3⟩
  have H3 := Lib.hid (H2.out.step hb3)
  have N3 := Lib.hid (N2.out.step hb3)
  have X3 := Lib.hid hx3
  clear hx3 hb3
  go_wp2_with fail
  refine (evalpair_any 7 a b (by decide) (by decide) HA.out HB.out B3 K _ w3 X3.out N3.out H3.out.tabs).mono ?_
  rw [E7.out]
  rintro r' w4 ⟨rfl, hb4⟩
  have H4 := Lib.hid (H3.out.step hb4)
  have N4 := Lib.hid (N3.out.step hb4)
  clear hb4
  go_wp2_with fail
  refine (pair_any 8 w4).mono ?_
  rintro r' w5 ⟨B5, rfl, hx5, hb5⟩
  have H5 := Lib.hid (H4.out.step hb5)
  have N5 := Lib.hid (N4.out.step hb5)
  have X5 := Lib.hid hx5
  clear hx5 hb5
  go_wp2_with fail
  refine (evalpair_any 8 a b (by decide) (by decide) HA.out HB.out B5 K _ w5 X5.out N5.out H5.out.tabs).mono ?_
  rw [E8.out]
  rintro r' w6 ⟨rfl, hb6⟩
  have H6 := Lib.hid (H5.out.step hb6)
  clear hb6
  go_wp2_with fail
  refine (pair_any 6 w6).mono ?_
  rintro r' w7 ⟨B7, rfl, hx7, hb7⟩
  have H7 := Lib.hid (H6.out.step hb7)
  have X7 := Lib.hid hx7
  clear hx7 hb7
  go_wp2_with fail
  obtain ⟨w8, hw8⟩ : ∃ w', w7.alloc (.cells #[.string ⟨#[97]⟩, .int .i64 q, .string ⟨#[98]⟩, .int .i64 b] 44 (0, 0)) = w' := ⟨_, rfl⟩
  have hb8 : Below w7.heap.size w7 w8 := hw8 ▸ (Below.refl _ _).alloc (Nat.le_refl _) _
  have hK8 : EnvB w8 w7.heap.size q b := hw8 ▸ heap_alloc_new _ _
  have H8 := Lib.hid (H7.out.step hb8)
  have X8 := Lib.hid (X7.out.below hb8)
  have N8 := Lib.hid hK8
  rw [hw8]
  refine (evalpair_any 6 q b (by decide) (by decide) HQ.out HB.out B7 _ _ w8 X8.out N8.out H8.out.tabs).mono ?_
  rw [E6.out]
  rintro r' w9 ⟨rfl, hb9⟩
  have H9 := Lib.hid (H8.out.step hb9)
  clear hb8 hK8 hw8 hb9
  go_wp2_with fail
  refine (pair_any 4 w9).mono ?_
  rintro r' w10 ⟨B10, rfl, hx10, hb10⟩
  have H10 := Lib.hid (H9.out.step hb10)
  have X10 := Lib.hid hx10
  clear hx10 hb10
  go_wp2_with fail
  obtain ⟨w11, hw11⟩ : ∃ w', w10.alloc (.cells #[.string ⟨#[97]⟩, .int .i64 p, .string ⟨#[98]⟩, .int .i64 r] 44 (0, 0)) = w' := ⟨_, rfl⟩
  have hb11 : Below w10.heap.size w10 w11 := hw11 ▸ (Below.refl _ _).alloc (Nat.le_refl _) _
  have hK11 : EnvB w11 w10.heap.size p r := hw11 ▸ heap_alloc_new _ _
  have H11 := Lib.hid (H10.out.step hb11)
  have X11 := Lib.hid (X10.out.below hb11)
  have N11 := Lib.hid hK11
  rw [hw11]
  refine (evalpair_any 4 p r (by decide) (by decide) HP.out HR.out B10 _ _ w11 X11.out N11.out H11.out.tabs).mono ?_
  rw [E4.out]
  rintro r' w12 ⟨rfl, hb12⟩
  have H12 := Lib.hid (H11.out.step hb12)
  clear hb11 hK11 hw11 hb12
  go_wp2_with fail
  go_ret
  exact ⟨rfl, H12.out.below⟩

end Go.Proofs.YtgaiheojlmebaaaDoor
