/- Walks: the reference's arithmetic. -/
import Derived.Test.YtgaiheojlmebaaaDoorW1
import Derived.Test.YtgaiheojlmebaaaDoorPure3
namespace Go.Proofs.YtgaiheojlmebaaaDoor
open Go Go.RowKit Go.Lib

theorem ret_nb {a b : Int} {p q : Bool} (h1 : a = b) (h2 : p = q) : Ending.returned (.tuple #[.int .i64 a, .bool p]) = .returned (.tuple #[.int .i64 b, .bool q]) := by rw [h1, h2]
/-- Did a sum stay within 64 bits? -/
def okP (p : Int × Int) : Bool := p.2 == 0
theorem chk_in {n : Int} (h : Fits n) : chk n = (n, 0) := if_pos h
theorem chk_out {n : Int} (h : ¬ Fits n) : chk n = (0, 22) := if_neg h
theorem chk_ok (n : Int) : chk n = if okP (chk n) then ((chk n).1, 0) else (0, 22) := by
  by_cases h : Fits n
  · rw [chk_in h]; rfl
  · rw [chk_out h]; rfl
theorem mul_fits {a b : Int} (ha : Fits a) (hb : Fits b) (b0 : b ≠ 0) (hl : ¬ (b = -1 ∧ a = -9223372036854775808)) : wrap64 ((wrap64 (a * b)).tdiv b) = a ↔ Fits (a * b) := by
  obtain ⟨ha1, ha2⟩ := ha
  obtain ⟨hb1, hb2⟩ := hb
  have ec := wrap64_eq (a * b)
  constructor
  · intro h
    by_cases hm : b = -1
    · subst hm
      constructor <;> omega
    · have hcf : Fits (wrap64 (a * b)) := by rw [ec]; constructor <;> omega
      have ht := tdiv_fits hcf.1 hcf.2 b0 hm
      rw [IntWalk.wrap64_in _ ht] at h
      have h1 : (wrap64 (a * b)).tmod b + b * (wrap64 (a * b)).tdiv b = wrap64 (a * b) := Int.tmod_add_mul_tdiv _ _
      have h2 : ((wrap64 (a * b)).tmod b).natAbs = (wrap64 (a * b)).natAbs % b.natAbs := Int.natAbs_tmod _ _
      have h3 : (wrap64 (a * b)).natAbs % b.natAbs < b.natAbs := Nat.mod_lt _ (by omega)
      rw [h, Int.mul_comm b a] at h1
      generalize a * b = p at *
      generalize wrap64 p = c at *
      generalize c.tmod b = r at *
      constructor <;> omega
  · intro h
    rw [show wrap64 (a * b) = a * b from IntWalk.wrap64_in _ h, Int.mul_tdiv_cancel _ b0, IntWalk.wrap64_in _ ⟨ha1, ha2⟩]

set_option maxHeartbeats 1000000 in
theorem xadd_any (a b : Int) (w : World) (ha : Fits a) (hb : Fits b) : Calls Tryd.prog 88 #[.int .i64 a, .int .i64 b] w fun e w' => e = .returned (.tuple #[.int .i64 (chk (a + b)).1, .bool (okP (chk (a + b)))]) ∧ w' = w := by
  obtain ⟨ha1, ha2⟩ := ha
  obtain ⟨hb1, hb2⟩ := hb
  go_enter Tryd.func88, Tryd.ntmps88
  go_wp2
  all_goals
    go_ret2
    first
    | (refine ⟨ret_nb ?_ ?_, rfl⟩ <;> rw [chk_in (n := a + b) ⟨by omega, by omega⟩] <;> first | rfl | done)
    | (refine ⟨ret_nb ?_ ?_, rfl⟩ <;> rw [chk_out (n := a + b) (by intro h; have := h.1; have := h.2; omega)] <;> first | rfl | done)
set_option maxHeartbeats 1000000 in
theorem xsub_any (a b : Int) (w : World) (ha : Fits a) (hb : Fits b) : Calls Tryd.prog 89 #[.int .i64 a, .int .i64 b] w fun e w' => e = .returned (.tuple #[.int .i64 (chk (a - b)).1, .bool (okP (chk (a - b)))]) ∧ w' = w := by
  obtain ⟨ha1, ha2⟩ := ha
  obtain ⟨hb1, hb2⟩ := hb
  go_enter Tryd.func89, Tryd.ntmps89
  go_wp2
  all_goals
    go_ret2
    first
    | (refine ⟨ret_nb ?_ ?_, rfl⟩ <;> rw [chk_in (n := a - b) ⟨by omega, by omega⟩] <;> first | rfl | done)
    | (refine ⟨ret_nb ?_ ?_, rfl⟩ <;> rw [chk_out (n := a - b) (by intro h; have := h.1; have := h.2; omega)] <;> first | rfl | done)
set_option maxHeartbeats 1000000 in
theorem xtruth_any (p : Bool) (w : World) : Calls Tryd.prog 55 #[.bool p] w fun e w' => e = .returned (.int .i64 (b01 p)) ∧ w' = w := by
  cases p
  all_goals
    go_enter Tryd.func55, Tryd.ntmps55
    go_wp2
    go_ret
    exact ⟨rfl, rfl⟩
set_option maxHeartbeats 2000000 in
theorem xmul_any (a b : Int) (w : World) (ha : Fits a) (hb : Fits b) : Calls Tryd.prog 90 #[.int .i64 a, .int .i64 b] w fun e w' => e = .returned (.tuple #[.int .i64 (chk (a * b)).1, .bool (okP (chk (a * b)))]) ∧ w' = w := by
  have hz : chk 0 = (0, 0) := chk_in ⟨by decide, by decide⟩
  by_cases a0 : a = 0
  · subst a0
    rw [Int.zero_mul, hz]
    clear hz ha hb
    go_enter Tryd.func90, Tryd.ntmps90
    go_wp2
    go_ret2
    exact ⟨rfl, rfl⟩
  by_cases b0 : b = 0
  · subst b0
    rw [Int.mul_zero, hz]
    have a0b : (a == 0) = false := beqf a0
    clear hz ha hb a0
    go_enter Tryd.func90, Tryd.ntmps90
    go_wp2
    go_ret2
    exact ⟨rfl, rfl⟩
  have a0b : (a == 0) = false := beqf a0
  have b0b : (b == 0) = false := beqf b0
  by_cases h1 : a = -1 ∧ b = -9223372036854775808
  · obtain ⟨rfl, rfl⟩ := h1
    rw [chk_out (n := -1 * -9223372036854775808) (fun h => absurd h.2 (by decide))]
    clear hz ha hb a0 b0 a0b b0b
    go_enter Tryd.func90, Tryd.ntmps90
    go_wp2
    go_ret2
    exact ⟨rfl, rfl⟩
  by_cases h2 : b = -1 ∧ a = -9223372036854775808
  · obtain ⟨rfl, rfl⟩ := h2
    rw [chk_out (n := -9223372036854775808 * -1) (fun h => absurd h.2 (by decide))]
    clear hz ha hb a0 b0 a0b b0b h1
    go_enter Tryd.func90, Tryd.ntmps90
    go_wp2
    go_ret2
    exact ⟨rfl, rfl⟩
  have hM := mul_fits ha hb b0 h2
  have hc : ((a == -1) = false ∨ (a == -1) = true ∧ (b == -9223372036854775808) = false) ∧ ((b == -1) = false ∨ (b == -1) = true ∧ (a == -9223372036854775808) = false) := by
    refine ⟨?_, ?_⟩
    · by_cases e : a = -1
      · exact .inr ⟨beq_iff_eq.2 e, beqf (fun e2 => h1 ⟨e, e2⟩)⟩
      · exact .inl (beqf e)
    · by_cases e : b = -1
      · exact .inr ⟨beq_iff_eq.2 e, beqf (fun e2 => h2 ⟨e, e2⟩)⟩
      · exact .inl (beqf e)
  obtain ⟨hc1, hc2⟩ := hc
  obtain ⟨m, hm⟩ : ∃ m, (wrap64 ((wrap64 (a * b)).tdiv b) != a) = m := ⟨_, rfl⟩
  have HM : Hid ((m = false → Fits (a * b)) ∧ (m = true → ¬ Fits (a * b))) := Lib.hid (by
    rw [← hm]
    refine ⟨fun h => hM.1 (by simpa using h), fun h hf => ?_⟩
    rw [hM.2 hf] at h
    simp at h)
  have HWR : Hid (Fits (a * b) → wrap64 (a * b) = a * b) := Lib.hid (fun h => IntWalk.wrap64_in _ h)
  clear hz ha hb a0 h1 h2 hM
  rcases hc1 with e1 | ⟨e1, e2⟩ <;> rcases hc2 with e3 | ⟨e3, e4⟩
  all_goals
    cases m
    · have hf : Fits (a * b) := HM.out.1 rfl
      have HF := Lib.hid hf
      have HW2 := Lib.hid (HWR.out hf)
      clear hf
      go_enter Tryd.func90, Tryd.ntmps90
      go_wp2
      go_ret2
      exact ⟨ret_nb (by rw [chk_in HF.out, HW2.out]) (by rw [chk_in HF.out]; rfl), rfl⟩
    · have hf : ¬ Fits (a * b) := HM.out.2 rfl
      have HF := Lib.hid hf
      clear hf
      go_enter Tryd.func90, Tryd.ntmps90
      go_wp2
      go_ret2
      exact ⟨ret_nb (by rw [chk_out HF.out]) (by rw [chk_out HF.out]; rfl), rfl⟩

theorem chk_two {x : Int} {n : Int} {ok : Bool} (h1 : (chk x).1 = n) (h2 : okP (chk x) = ok) : chk x = if ok then (n, 0) else (0, 22) := by rw [← h1, ← h2]; exact chk_ok x
set_option maxHeartbeats 4000000 in
theorem xtwoE_any (op a b : Int) (w : World) (h4 : 4 ≤ op) (h16 : op ≤ 16) (ha : Fits a) (hb : Fits b) : Calls Tryd.prog 54 #[.int .i64 op, .int .i64 a, .int .i64 b] w fun e w' => e = .returned (.tuple #[.int .i64 (eTwo op a b).1, .int .i64 (eTwo op a b).2]) ∧ w' = w := by
  have h1 := xadd_any a b w ha hb
  have h2 := xsub_any a b w ha hb
  have h3 := xmul_any a b w ha hb
  have h0 := xsub_any 0 a w ⟨by decide, by decide⟩ ha
  obtain ⟨ha1, ha2⟩ := ha
  by_cases hs : op = 4 ∨ op = 5 ∨ op = 6
  · rcases hs with rfl | rfl | rfl
    · obtain ⟨n, hn⟩ : ∃ n, (chk (a + b)).1 = n := ⟨_, rfl⟩
      obtain ⟨ok, hk⟩ : ∃ ok, okP (chk (a + b)) = ok := ⟨_, rfl⟩
      have HX : Hid (eTwo 4 a b = if ok then (n, 0) else (0, 22)) := Lib.hid (chk_two hn hk)
      rw [hn, hk] at h1
      have HC := Lib.hid h1
      clear h1 h2 h3 h0 hn hk
      cases ok
      all_goals
        go_enter Tryd.func54, Tryd.ntmps54
        go_wp2_with (go_at_call 88; refine HC.out.mono ?_; rintro e w' ⟨rfl, rfl⟩)
        go_ret2
        exact ⟨by rw [HX.out]; rfl, rfl⟩
    · obtain ⟨n, hn⟩ : ∃ n, (chk (a - b)).1 = n := ⟨_, rfl⟩
      obtain ⟨ok, hk⟩ : ∃ ok, okP (chk (a - b)) = ok := ⟨_, rfl⟩
      have HX : Hid (eTwo 5 a b = if ok then (n, 0) else (0, 22)) := Lib.hid (chk_two hn hk)
      rw [hn, hk] at h2
      have HC := Lib.hid h2
      clear h1 h2 h3 h0 hn hk
      cases ok
      all_goals
        go_enter Tryd.func54, Tryd.ntmps54
        go_wp2_with (go_at_call 89; refine HC.out.mono ?_; rintro e w' ⟨rfl, rfl⟩)
        go_ret2
        exact ⟨by rw [HX.out]; rfl, rfl⟩
    · obtain ⟨n, hn⟩ : ∃ n, (chk (a * b)).1 = n := ⟨_, rfl⟩
      obtain ⟨ok, hk⟩ : ∃ ok, okP (chk (a * b)) = ok := ⟨_, rfl⟩
      have HX : Hid (eTwo 6 a b = if ok then (n, 0) else (0, 22)) := Lib.hid (chk_two hn hk)
      rw [hn, hk] at h3
      have HC := Lib.hid h3
      clear h1 h2 h3 h0 hn hk
      cases ok
      all_goals
        go_enter Tryd.func54, Tryd.ntmps54
        go_wp2_with (go_at_call 90; refine HC.out.mono ?_; rintro e w' ⟨rfl, rfl⟩)
        go_ret2
        exact ⟨by rw [HX.out]; rfl, rfl⟩
  clear h1 h2 h3
  by_cases hd : op = 7 ∨ op = 8
  · clear h4 h16 hs
    by_cases b0 : b = 0
    · subst b0
      clear h0
      rcases hd with rfl | rfl
      all_goals
        go_enter Tryd.func54, Tryd.ntmps54
        go_wp2_with fail
        go_ret2
        exact ⟨rfl, rfl⟩
    by_cases b1 : b = -1
    · subst b1
      obtain ⟨n, hn⟩ : ∃ n, (chk (0 - a)).1 = n := ⟨_, rfl⟩
      obtain ⟨ok, hk⟩ : ∃ ok, okP (chk (0 - a)) = ok := ⟨_, rfl⟩
      have HX : Hid (eTwo 7 a (-1) = if ok then (n, 0) else (0, 22)) := Lib.hid (by rw [← chk_two hn hk]; unfold eTwo eDivide; simp)
      have HX8 : Hid (eTwo 8 a (-1) = (0, 0)) := Lib.hid (by unfold eTwo eDivide; simp)
      rw [hn, hk] at h0
      have HC := Lib.hid h0
      clear h0 hn hk b0
      rcases hd with rfl | rfl
      · cases ok
        all_goals
          go_enter Tryd.func54, Tryd.ntmps54
          go_wp2_with (go_at_call 89; refine HC.out.mono ?_; rintro e w' ⟨rfl, rfl⟩)
          go_ret2
          exact ⟨by rw [HX.out]; rfl, rfl⟩
      · go_enter Tryd.func54, Tryd.ntmps54
        go_wp2_with (go_at_call 89; refine HC.out.mono ?_; rintro e w' ⟨rfl, rfl⟩)
        go_ret2
        exact ⟨by rw [HX8.out]; first | done | rfl, rfl⟩
    · have c0 : (b == 0) = false := beqf b0
      have c1 : (b == -1) = false := beqf b1
      have ht := tdiv_fits ha1 ha2 b0 b1
      have HX : Hid (eTwo 7 a b = (a.tdiv b, 0)) := Lib.hid (by unfold eTwo eDivide; rw [if_neg (by decide), if_neg (by decide), if_neg (by decide), if_pos (by decide), if_neg b0, if_neg (by decide), chk_in ht])
      have HX8 : Hid (eTwo 8 a b = (a.tmod b, 0)) := Lib.hid (by unfold eTwo eDivide; rw [if_neg (by decide), if_neg (by decide), if_neg (by decide), if_pos (by decide), if_neg b0, if_pos rfl])
      have HW : Hid (wrap64 (a.tdiv b) = a.tdiv b) := Lib.hid (IntWalk.wrap64_in _ ht)
      clear h0 ht b1
      rcases hd with rfl | rfl
      · go_enter Tryd.func54, Tryd.ntmps54
        go_wp2_with fail
        go_ret2
        exact ⟨by rw [HX.out, HW.out]; first | done | rfl, rfl⟩
      · go_enter Tryd.func54, Tryd.ntmps54
        go_wp2_with fail
        go_ret2
        exact ⟨by rw [HX8.out]; first | done | rfl, rfl⟩
  · have hop : op = 9 ∨ op = 10 ∨ op = 11 ∨ op = 12 ∨ op = 13 ∨ op = 14 ∨ op = 15 ∨ op = 16 := by omega
    clear h4 h16 h0 hs hd
    rcases hop with rfl | rfl | rfl | rfl | rfl | rfl | rfl | rfl
    all_goals
      go_enter Tryd.func54, Tryd.ntmps54
      go_wp2_with (go_at_call 55; refine (xtruth_any _ _).mono ?_; rintro e w' ⟨rfl, rfl⟩)
      all_goals
        go_ret2
        refine ⟨?_, rfl⟩
        first
        | rfl
        | (simp [eTwo, b01, *]; done)
end Go.Proofs.YtgaiheojlmebaaaDoor
