/- Walks: the reference's classes and runes. -/
import Derived.Test.YtgaiheojlmebaaaGreatDoorW1
import Derived.Test.YtgaiheojlmebaaaGreatDoorS3
namespace Go.Proofs.YtgaiheojlmebaaaGreatDoor
open Go Go.RowKit Go.Lib

/-- Is a number a letter's or a digit's? -/
def isWz (r : Int) : Bool := cls r == 2 || cls r == 3
theorem isWz_nat (n : Nat) : isWz (n : Int) = isW n := rfl
/-- A sign's class, by a list of signs. -/
def sgF (r : Int) : List UInt8 → Int
  | [] => 0
  | c :: cs => if (c.toNat : Int) = r then 4 else sgF r cs
theorem sgF_cls (r : Int) (h : ¬ (r = 32 ∨ r = 9 ∨ r = 13 ∨ r = 10)) (h2 : ¬ ((97 ≤ r ∧ r ≤ 122) ∨ (65 ≤ r ∧ r ≤ 90) ∨ r = 95)) (h3 : ¬ (192 ≤ r ∧ r ≤ 591 ∧ r ≠ 215 ∧ r ≠ 247)) (h4 : ¬ (48 ≤ r ∧ r ≤ 57)) (h5 : ¬ r = 34) (h6 : ¬ r = 35) : sgF r signs = cls r := by
  unfold cls
  rw [if_neg h, if_neg h2, if_neg h3, if_neg h4, if_neg h5, if_neg h6]
  by_cases hr : 32 < r ∧ r < 127
  · have hd : ((List.range 127).all fun k => sgF (k : Int) signs == if 32 < (k : Int) ∧ (k : Int) < 127 ∧ 0 ≤ indexByte signs k.toUInt8 then 4 else 0) = true := by kernel_rfl
    have := List.all_eq_true.1 hd r.toNat (List.mem_range.2 (by omega))
    rw [beq_iff_eq] at this
    rw [show ((r.toNat : Nat) : Int) = r by omega] at this
    exact this
  · rw [if_neg (fun e => hr ⟨e.1, e.2.1⟩)]
    have hs : ∀ l : List UInt8, (∀ c, c ∈ l → (c.toNat : Int) ≠ r) → sgF r l = 0 := by
      intro l
      induction l with
      | nil => intro _; rfl
      | cons c cs ih => intro hc; rw [sgF, if_neg (hc c (by simp)), ih (fun x hx => hc x (by simp [hx]))]
    refine hs signs (fun c hc => ?_)
    have hd : (signs.all fun c => decide (32 < c.toNat) && decide (c.toNat < 127)) = true := by kernel_rfl
    have := List.all_eq_true.1 hd c hc
    simp only [Bool.and_eq_true, decide_eq_true_eq] at this
    omega
def signsB : ByteArray := ⟨#[40, 41, 123, 125, 44, 59, 58, 61, 43, 45, 42, 47, 37, 60, 62, 33, 38, 124]⟩
theorem signsB_at (i : Nat) (h : i < signs.length) : signsB[i]'h = signs[i] := rfl

set_option maxHeartbeats 4000000 in
theorem xclass_sign (r : Int) (w : World) (h : ¬ (r = 32 ∨ r = 9 ∨ r = 13 ∨ r = 10)) (h2 : ¬ ((97 ≤ r ∧ r ≤ 122) ∨ (65 ≤ r ∧ r ≤ 90) ∨ r = 95)) (h3 : ¬ (192 ≤ r ∧ r ≤ 591 ∧ r ≠ 215 ∧ r ≠ 247)) (h4 : ¬ (48 ≤ r ∧ r ≤ 57)) (h5 : ¬ r = 34) (h6 : ¬ r = 35) :
    Calls Tryz.prog 72 #[.int .i64 r] w fun e w' => e = .returned (.int .i64 (cls r)) ∧ w' = w := by
  rw [← sgF_cls r h h2 h3 h4 h5 h6]
  obtain ⟨ANS, hANS⟩ : ∃ a, sgF r signs = a := ⟨_, rfl⟩
  have HANS := Lib.hid hANS
  rw [hANS]
  have hb : (r == 32) = false ∧ (r == 9) = false ∧ (r == 13) = false ∧ (r == 10) = false ∧ (r == 95) = false ∧ (r == 34) = false ∧ (r == 35) = false := ⟨beqf (by omega), beqf (by omega), beqf (by omega), beqf (by omega), beqf (by omega), beqf (by omega), beqf (by omega)⟩
  obtain ⟨b0, b1, b2, b3, b4, b5, b6⟩ := hb
  have hi : r < 48 ∨ (57 < r ∧ r < 65) ∨ (90 < r ∧ r < 97) ∨ (122 < r ∧ r < 192) ∨ (192 ≤ r ∧ r ≤ 591 ∧ (r != 215) = false) ∨ (192 ≤ r ∧ r ≤ 591 ∧ (r != 215) = true ∧ (r != 247) = false) ∨ 591 < r := by
    by_cases e1 : r = 215
    · exact .inr (.inr (.inr (.inr (.inl ⟨by omega, by omega, bnef e1⟩))))
    · by_cases e2 : r = 247
      · exact .inr (.inr (.inr (.inr (.inr (.inl ⟨by omega, by omega, bnet e1, bnef e2⟩)))))
      · omega
  clear h h2 h3 h4 h5 h6 hANS
  rcases hi with i1 | ⟨i1, i2⟩ | ⟨i1, i2⟩ | ⟨i1, i2⟩ | ⟨i1, i2, i3⟩ | ⟨i1, i2, i3, i4⟩ | i1
  all_goals
    go_enter Tryz.func72, Tryz.ntmps72
    go_wp2_with fail
    go_loopg [4] 19 (fun k s4 w' => ∃ i : Nat, s4 = .int .i64 i ∧ i ≤ 18 ∧ 18 - i < k ∧ sgF r (signs.drop i) = ANS ∧ w' = w)
    case atStart => exact ⟨0, rfl, by omega, by omega, HANS.out, rfl⟩
    case round =>
      obtain ⟨i, rfl, hi, hik, hans, rfl⟩ := hrel
      obtain ⟨gk, rfl⟩ : ∃ k, gk = k + 1 := ⟨gk - 1, by omega⟩
      by_cases hlt : i < 18
      · have hltz : (i : Int) < 18 := by omega
        obtain ⟨c, hc⟩ : ∃ c, signs[i]'hlt = c := ⟨_, rfl⟩
        have hh : (⟨#[40, 41, 123, 125, 44, 59, 58, 61, 43, 45, 42, 47, 37, 60, 62, 33, 38, 124]⟩ : ByteArray)[i]'hlt = c := hc
        have hclt := c.toNat_lt
        rw [drop_cons signs i hlt, sgF, hc] at hans
        by_cases e : (c.toNat : Int) = r
        · have eb : ((c.toNat : Int) == r) = true := beq_iff_eq.2 e
          rw [if_pos e] at hans
          have HN := Lib.hid hans
          clear hans e hc
          go_wp2_with fail
          go_ret
          exact ⟨ret_int HN.out, rfl⟩
        · have eb : ((c.toNat : Int) == r) = false := beqf e
          rw [if_neg e] at hans
          have HN := Lib.hid hans
          clear hans e hc
          go_wp2_with fail
          go_roundg gk
          case measure => omega
          case rel => exact ⟨i + 1, by go_num, by omega, by omega, HN.out, rfl⟩
      · obtain rfl : i = 18 := by omega
        have HN := Lib.hid hans
        clear hans
        go_wp2_with fail
        go_ret
        exact ⟨ret_int HN.out, rfl⟩

set_option maxHeartbeats 4000000 in
theorem xclass_any (r : Int) (w : World) : Calls Tryz.prog 72 #[.int .i64 r] w fun e w' => e = .returned (.int .i64 (cls r)) ∧ w' = w := by
  by_cases h : r = 32 ∨ r = 9 ∨ r = 13 ∨ r = 10
  · have HX : Hid (cls r = 1) := Lib.hid (if_pos h)
    rcases h with rfl | rfl | rfl | rfl
    all_goals
      go_enter Tryz.func72, Tryz.ntmps72
      go_wp2_with fail
      go_ret
      exact ⟨ret_int HX.out.symm, rfl⟩
  have hb : (r == 32) = false ∧ (r == 9) = false ∧ (r == 13) = false ∧ (r == 10) = false := ⟨beqf (by omega), beqf (by omega), beqf (by omega), beqf (by omega)⟩
  obtain ⟨b0, b1, b2, b3⟩ := hb
  by_cases h2 : (97 ≤ r ∧ r ≤ 122) ∨ (65 ≤ r ∧ r ≤ 90) ∨ r = 95
  · have HX : Hid (cls r = 2) := Lib.hid (by unfold cls; rw [if_neg h, if_pos h2])
    clear h
    rcases h2 with ⟨h2, h3⟩ | ⟨h2, h3⟩ | rfl
    all_goals
      go_enter Tryz.func72, Tryz.ntmps72
      go_wp2_with fail
      go_ret
      exact ⟨ret_int HX.out.symm, rfl⟩
  by_cases h3 : 192 ≤ r ∧ r ≤ 591 ∧ r ≠ 215 ∧ r ≠ 247
  · have HX : Hid (cls r = 2) := Lib.hid (by unfold cls; rw [if_neg h, if_neg h2, if_pos h3])
    obtain ⟨h4, h5, h6, h7⟩ := h3
    have c4 : (r == 95) = false := beqf (by omega)
    have c5 : (r != 215) = true := bnet h6
    have c6 : (r != 247) = true := bnet h7
    clear h h2 h6 h7
    go_enter Tryz.func72, Tryz.ntmps72
    go_wp2_with fail
    go_ret
    exact ⟨ret_int HX.out.symm, rfl⟩
  by_cases h4 : 48 ≤ r ∧ r ≤ 57
  · have HX : Hid (cls r = 3) := Lib.hid (by unfold cls; rw [if_neg h, if_neg h2, if_neg h3, if_pos h4])
    obtain ⟨h5, h6⟩ := h4
    have c4 : (r == 95) = false := beqf (by omega)
    clear h h2 h3
    go_enter Tryz.func72, Tryz.ntmps72
    go_wp2_with fail
    go_ret
    exact ⟨ret_int HX.out.symm, rfl⟩
  by_cases h5 : r = 34
  · subst h5
    clear h h2 h3 h4
    go_enter Tryz.func72, Tryz.ntmps72
    go_wp2_with fail
    go_ret
    exact ⟨rfl, rfl⟩
  by_cases h6 : r = 35
  · subst h6
    clear h h2 h3 h4 h5
    go_enter Tryz.func72, Tryz.ntmps72
    go_wp2_with fail
    go_ret
    exact ⟨rfl, rfl⟩
  exact xclass_sign r w h h2 h3 h4 h5 h6

set_option maxHeartbeats 1000000 in
theorem xwordy_any (r : Int) (w : World) : Calls Tryz.prog 73 #[.int .i64 r] w fun e w' => e = .returned (.bool (isWz r)) ∧ w' = w := by
  have HC := Lib.hid (xclass_any r w)
  obtain ⟨c, hc⟩ : ∃ c, cls r = c := ⟨_, rfl⟩
  have HX : Hid (isWz r = (c == 2 || c == 3)) := Lib.hid (by unfold isWz; rw [hc])
  rw [hc] at HC
  clear hc
  rcases three c with rfl | rfl | ⟨n2, n3⟩
  all_goals
    (try rw [bne, Bool.not_eq_true'] at n2 n3)
    go_enter Tryz.func73, Tryz.ntmps73
    go_wp2_with (go_at_call 72; refine HC.out.mono ?_; rintro e w' ⟨rfl, rfl⟩)
    go_ret
    exact ⟨ret_bool (by rw [HX.out]; simp [*]), rfl⟩

end Go.Proofs.YtgaiheojlmebaaaGreatDoor
