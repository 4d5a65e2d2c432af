/- Walks: Number, bad. -/
import Derived.Test.YtgaiheojlmebaaaDoorL3
import Derived.Lib.OthersKept
namespace Go.Proofs.YtgaiheojlmebaaaDoor
open Go Go.RowKit Go.Lib

theorem ret_ib {a : Int} {b : Bool} {p : Int × Bool} (h : (a, b) = p) : Ending.returned (.tuple #[.int .i64 a, .bool b]) = .returned (.tuple #[.int .i64 p.1, .bool p.2]) := by rw [← h]
theorem numB_bad {s : ByteArray} (h : s.size = 0 ∨ 19 < s.size ∨ 1 < s.size ∧ s.data.toList.getD 0 0 = 48) : numB s = (0, false) := by unfold numB; rw [if_pos h]
theorem numT_big {n : Nat} (h : 9223372036854775807 < n) : numT (some n) = (0, false) := if_pos h
theorem numT_ok {n : Nat} (h : ¬ 9223372036854775807 < n) : numT (some n) = ((n : Int), true) := if_neg h
theorem cls3 {r : Int} : cls r = 3 ↔ 48 ≤ r ∧ r ≤ 57 := by
  unfold cls
  repeat' split
  all_goals omega
theorem pow_next {a d p q : Nat} (ha : a < 10 ^ p) (hd : d ≤ 9) (hq : 1 ≤ q) : 10 * a + d < 10 ^ (p + q) := by
  have h1 : 10 ^ (p + 1) ≤ 10 ^ (p + q) := Nat.pow_le_pow_right (by omega) (by omega)
  rw [Nat.pow_succ] at h1
  omega
theorem pow_cap {a p : Nat} (ha : a < 10 ^ p) (hp : p ≤ 18) : a ≤ 999999999999999999 := by
  have h1 : 10 ^ p ≤ 10 ^ 18 := Nat.pow_le_pow_right (by omega) hp
  omega
theorem pow_cap' {a p : Nat} (ha : a < 10 ^ p) (hp : p ≤ 19) : a ≤ 9999999999999999999 := by
  have h1 : 10 ^ p ≤ 10 ^ 19 := Nat.pow_le_pow_right (by omega) hp
  omega

set_option maxHeartbeats 1000000 in
set_option maxRecDepth 100000 in
theorem number_any (s : ByteArray) (w : World) : Calls Tryd.prog 66 #[.string s] w fun e w' => e = .returned (.tuple #[.int .i64 (numB s).1, .bool (numB s).2]) ∧ Below w.heap.size w w' := by
  by_cases h0 : s.size = 0
  · have hE : s.toList.isEmpty = true := by
      have := ne_empty s; simp [h0] at this; simpa using this
    rw [numB_bad (.inl h0)]
    clear h0
    go_enter Tryd.func66, Tryd.ntmps66
    go_wp2
    go_ret2
    exact ⟨rfl, Below.refl _ _⟩
  have hE : s.toList.isEmpty = false := by
    have := ne_empty s; simp [h0] at this; simpa using this
  by_cases h19 : 19 < s.size
  · rw [numB_bad (.inr (.inl h19))]
    have hz : (19 : Int) < s.size := by omega
    clear h0 h19
    go_enter Tryd.func66, Tryd.ntmps66
    go_wp2
    go_ret2
    exact ⟨rfl, Below.refl _ _⟩
  have hz19 : (s.size : Int) ≤ 19 := by omega
  have hp0 : 0 < s.size := by omega
  have hz0 : (0 : Int) < s.size := by omega
  obtain ⟨c, hc⟩ : ∃ c : UInt8, s.data.toList.getD 0 0 = c := ⟨_, rfl⟩
  have hh : s[0] = c := by rw [head_getD s hp0]; exact hc
  have hlt := c.toNat_lt
  by_cases h1 : 1 < s.size ∧ c = 48
  · rw [numB_bad (.inr (.inr ⟨h1.1, by rw [hc]; exact h1.2⟩))]
    obtain ⟨h1, rfl⟩ := h1
    have hz1 : (1 : Int) < s.size := by omega
    clear hc h0 h19 h1
    go_enter Tryd.func66, Tryd.ntmps66
    go_wp2
    go_ret2
    exact ⟨rfl, Below.refl _ _⟩
  obtain ⟨ANS, hANS⟩ : ∃ ANS, numF 0 (runes s.data.toList) = ANS := ⟨_, rfl⟩
  have HA : Hid (numB s = numT ANS) := by
    unfold numB
    rw [if_neg (by rw [hc]; rintro (h | h | h); exact h0 h; exact h19 h; exact h1 h), hANS]
    exact rfl
  have hor : (s.size : Int) ≤ 1 ∨ (1 : Int) < s.size ∧ ((c.toNat : Int) == 48) = false := by
    rcases Nat.lt_or_ge 1 s.size with h | h
    · refine .inr ⟨by omega, ?_⟩
      rw [beq_eq_false_iff_ne]
      intro e
      exact h1 ⟨h, UInt8.toNat_inj.1 (by simpa using (by omega : c.toNat = 48))⟩
    · exact .inl (by omega)
  have H19 := Lib.hid h19
  clear hc h0 h19 h1
  rcases hor with hor | ⟨hor, hor2⟩
  all_goals
    go_enter Tryd.func66, Tryd.ntmps66
    go_wp2
    go_loopw [4, 6] (fun n _ w' => ∃ pos acc : Nat, w' = w.iter s pos ∧ n = .int .u64 acc ∧ acc < 10 ^ pos ∧ pos ≤ s.size ∧ numF acc (runes (s.data.toList.drop pos)) = ANS) (fun _ _ w' => s.size - w'.iterPos w.heap.size)
    case atStart => exact ⟨0, 0, rfl, rfl, by simp, by omega, by simpa using hANS⟩
    case round =>
      obtain ⟨pos, acc, rfl, rfl, hacc, hps, hr⟩ := hrel
      clear hANS
      have HR := Lib.hid hr
      have HACC := Lib.hid hacc
      have hcap := pow_cap' hacc (by omega)
      clear hr
      by_cases hp : pos < s.size
      · have hnx : ∀ ty, (Instr.next (.pointer (some ⟨w.heap.size, 0, none⟩)) true ty).run Tryd.prog (w.iter s pos) = _ := fun ty => run_next_any w s pos ty hp
        have hwd := Lib.decode_width_pos s pos hp
        have hle := decode_le' s pos
        have hft := decode_fits s pos hp
        have hcap2 := pow_cap hacc (by omega)
        clear hacc
        obtain ⟨cl, hcl⟩ : ∃ c, cls ((Utf8.decode s pos).1 : Int) = c := ⟨_, rfl⟩
        have hC : ∀ w', Calls Tryd.prog 62 #[.int .i32 (Utf8.decode s pos).1] w' fun e w'' => e = .returned (.int .i64 cl) ∧ w' = w'' := by
          subst hcl
          exact fun w' => class_any _ w' (by omega) hle
        have HC := Lib.hid hC
        have HRR : Hid (numF acc (runes (s.data.toList.drop pos)) = if cl = 3 then numF (10 * acc + ((Utf8.decode s pos).1 - 48)) (runes (s.data.toList.drop (pos + (Utf8.decode s pos).2))) else none) := by
          rw [runes_at s pos hp, ← hcl]; exact rfl
        by_cases h3 : cl = 3
        · subst h3
          obtain ⟨hd1, hd2⟩ := cls3.1 hcl
          clear hC hcl
          go_wp2_with (go_at_call 62; refine (HC.out _).mono ?_; rintro e w' ⟨rfl, rfl⟩)
          go_roundw
          case rel =>
            have h1 := HR.out
            rw [HRR.out, if_pos trivial] at h1
            exact ⟨_, _, rfl, by congr 1; omega, pow_next HACC.out (by omega) hwd, hft, h1⟩
          case measure => simp; omega
        · have hb : (cl != 3) = true := by rw [bne_iff_ne]; exact h3
          have H3 := Lib.hid h3
          clear hC hcl h3
          go_wp2_with (go_at_call 62; refine (HC.out _).mono ?_; rintro e w' ⟨rfl, rfl⟩)
          go_ret2
          refine ⟨ret_ib ?_, below_iter _ _ _⟩
          have h1 := HR.out
          rw [HRR.out, if_neg H3.out] at h1
          rw [HA.out, ← h1]
          rfl
      · have hnx : ∀ ty, (Instr.next (.pointer (some ⟨w.heap.size, 0, none⟩)) true ty).run Tryd.prog (w.iter s pos) = _ := fun ty => run_next_end w s pos ty hp
        have HE : Hid (ANS = some acc) := by
          have h1 := HR.out
          rw [runes_end s pos hp] at h1
          exact h1.symm
        by_cases hbig : 9223372036854775807 < acc
        · have hz : (9223372036854775807 : Int) < acc := by omega
          clear hacc
          go_wp2
          go_ret2
          exact ⟨ret_ib (by rw [HA.out, HE.out, numT_big hbig]), below_iter _ _ _⟩
        · have hz : (acc : Int) ≤ 9223372036854775807 := by omega
          clear hacc
          go_wp2
          go_ret2
          exact ⟨ret_ib (by rw [HA.out, HE.out, numT_ok hbig]), below_iter _ _ _⟩
end Go.Proofs.YtgaiheojlmebaaaDoor
