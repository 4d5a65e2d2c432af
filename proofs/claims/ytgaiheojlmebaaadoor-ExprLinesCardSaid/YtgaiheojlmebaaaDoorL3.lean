/- Walks: Show, Name, Number, bad. -/
import Derived.Test.YtgaiheojlmebaaaDoorL2
namespace Go.Proofs.YtgaiheojlmebaaaDoor
open Go Go.RowKit Go.Lib

theorem below_grow (w : World) (q : Nat) (os : Array Obj) : Below w.heap.size w (Sort.grow (w.drewN q) os) := by
  refine ⟨rfl, rfl, rfl, by simp [Sort.grow, World.drewN], fun k hk => ?_⟩
  show (w.heap ++ os)[k]? = _
  rw [Array.getElem?_append_left hk]
theorem wordyB_pos {s : ByteArray} (h : wordyB s = true) : 0 < s.size := by
  unfold wordyB at h
  rw [Bool.and_eq_true, decide_eq_true_eq] at h
  omega
set_option maxHeartbeats 1000000 in
theorem show_any (n : Int) (w : World) (h0 : -9223372036854775808 ≤ n) (h1 : n ≤ 9223372036854775807) (hT : Tabs w) :
    Calls Tryd.prog 58 #[.int .i64 n] w fun e w' => e = .returned (.string ⟨(Lib.itoa n).toArray⟩) ∧ Below w.heap.size w w' := by
  have HC := Lib.hid (Tryd.strconv_Itoa n h0 h1 w hT.pow)
  clear hT
  go_enter Tryd.func58, Tryd.ntmps58
  go_wp2_with (go_at_call 94; refine HC.out.mono ?_; rintro e w' ⟨rfl, k, os, rfl⟩)
  go_ret
  exact ⟨rfl, below_grow _ _ _⟩

theorem head_getD (s : ByteArray) (h : 0 < s.size) : s[0] = s.data.toList.getD 0 0 := by
  have h' : 0 < s.data.toList.length := by rw [size_data]; exact h
  rw [List.getD_eq_getElem?_getD, List.getElem?_eq_getElem h']
  rfl

set_option maxHeartbeats 1000000 in
theorem name_any (s : ByteArray) (w : World) (hs : s.size < 9223372036854775807) (hT : Tabs w) :
    Calls Tryd.prog 56 #[.string s] w fun e w' => e = .returned (.bool (nameB s)) ∧ Below w.heap.size w w' := by
  have HV := Lib.hid (Tryd.utf8_ValidString s w (by omega) hT.utf)
  clear hT
  obtain ⟨V, hV⟩ : ∃ V, Lib.validD s.data.toList = V := ⟨_, rfl⟩
  obtain ⟨W, hW⟩ : ∃ W, wordyB s = W := ⟨_, rfl⟩
  obtain ⟨n, hn⟩ : ∃ n : Nat, (runes s.data.toList).length = n := ⟨_, rfl⟩
  obtain ⟨c, hc⟩ : ∃ c : UInt8, s.data.toList.getD 0 0 = c := ⟨_, rfl⟩
  have HA : Hid (nameB s = (V && W && (decide (c.toNat < 48) || decide (57 < c.toNat)) && decide (n ≤ 12))) := by unfold nameB; rw [hV, hW, hn, hc]; exact rfl
  have HWd : Hid (∀ w, Calls Tryd.prog 92 #[.string s] w fun e w' => e = .returned (.bool W) ∧ Below w.heap.size w w') := fun w => by have := wordy_any s w; rw [hW] at this; exact this
  have HR : Hid (∀ w, Calls Tryd.prog 65 #[.string s] w fun e w' => e = .returned (.int .i64 n) ∧ ∃ pos, w' = w.iter s pos) := fun w => by
    have := Tryd.utf8_RuneCountInString s w hs; rw [runeCount_runes, hn] at this; exact this
  rw [hV] at HV
  cases V
  · go_enter Tryd.func56, Tryd.ntmps56
    go_wp2_with (go_at_call 91; refine HV.out.mono ?_; rintro e w1 ⟨rfl, hb1⟩)
    go_ret
    exact ⟨ret_bool (by rw [HA.out]; rfl), hb1⟩
  · cases W
    · clear hV hW hn hc
      go_enter Tryd.func56, Tryd.ntmps56
      go_wp2_with (first | (go_at_call 91; refine HV.out.mono ?_; rintro e w1 ⟨rfl, hb1⟩) | (go_at_call 92; refine (HWd.out _).mono ?_; rintro e w2 ⟨rfl, hb2⟩))
      go_ret
      exact ⟨ret_bool (by rw [HA.out]; rfl), hb1.trans (hb2.mono hb1.size)⟩
    · have h0 : 0 < s.size := wordyB_pos hW
      have hz : (0 : Int) < s.size := by omega
      have hh : s[0] = c := by rw [head_getD s h0]; exact hc
      have hlt := c.toNat_lt
      clear hV hW hn hc
      have hd : ((c.toNat : Int) < 48 ∧ decide ((c.toNat : Int) < 48) = true ∧ (decide (c.toNat < 48) || decide (57 < c.toNat)) = true) ∨
          (48 ≤ (c.toNat : Int) ∧ 57 < (c.toNat : Int) ∧ (decide (c.toNat < 48) || decide (57 < c.toNat)) = true) ∨
          (48 ≤ (c.toNat : Int) ∧ (c.toNat : Int) ≤ 57 ∧ (decide (c.toNat < 48) || decide (57 < c.toNat)) = false) := by
        rcases Nat.lt_or_ge c.toNat 48 with h1 | h1
        · exact .inl ⟨by omega, decide_eq_true (by omega), by simp [h1]⟩
        · rcases Nat.lt_or_ge 57 c.toNat with h2 | h2
          · exact .inr (.inl ⟨by omega, by omega, by simp [h2]⟩)
          · exact .inr (.inr ⟨by omega, by omega, by simp; omega⟩)
      rcases hd with ⟨d1, d2, hd⟩ | ⟨d1, d2, hd⟩ | ⟨d1, d2, hd⟩
      all_goals
        have HD := Lib.hid hd
        clear hd
        go_enter Tryd.func56, Tryd.ntmps56
        go_wp2_with (first | (go_at_call 91; refine HV.out.mono ?_; rintro e w1 ⟨rfl, hb1⟩) | (go_at_call 92; refine (HWd.out _).mono ?_; rintro e w2 ⟨rfl, hb2⟩) | (go_at_call 65; refine (HR.out _).mono ?_; rintro e w3 ⟨rfl, pos, rfl⟩))
        all_goals
          go_ret
          first
          | exact ⟨ret_bool (by rw [HA.out, HD.out]; simp <;> omega), hb1.trans (hb2.mono hb1.size)⟩
          | exact ⟨ret_bool (by rw [HA.out, HD.out]; simp <;> omega), (hb1.trans (hb2.mono hb1.size)).trans ((below_iter _ _ _).mono (Nat.le_trans hb1.size hb2.size))⟩
end Go.Proofs.YtgaiheojlmebaaaDoor
