/- Walks through the functions of lex that go over a text rune by rune. Walks: Show, Name, Number, bad. Walks: Number, bad. A walk: bad. -/
import Derived.Test.YtgcfjkfipkfijaaGreatDoorL1
import Derived.Test.YtgcfjkfipkfijaaGreatDoorTabs
import Derived.Lib.OthersKept
/-! Walks through the functions of lex that go over a text rune by rune. -/
namespace Go.Proofs.YtgcfjkfipkfijaaGreatDoor
open Go Go.RowKit Go.Lib

theorem ret_bool {a b : Bool} (h : a = b) : Ending.returned (.bool a) = .returned (.bool b) := by rw [h]
theorem size_data (s : ByteArray) : s.data.toList.length = s.size := by simp
theorem below_iter (w : World) (s : ByteArray) (pos : Nat) : Below w.heap.size w (w.iter s pos) := (Below.refl _ _).alloc (Nat.le_refl _) _
theorem isW_class {r : Nat} {c : Int} (h : cls (r : Int) = c) : isW r = (c == 2 || c == 3) := by unfold isW; rw [h]
theorem decode_le' (s : ByteArray) (pos : Nat) : ((Utf8.decode s pos).1 : Int) ≤ 2147483647 := by have := decode_le s pos; omega
theorem ne_empty (s : ByteArray) : (!s.toList.isEmpty) = decide (s.size ≠ 0) := by
  rw [Lib.toList_data, ← size_data]
  cases s.data.toList <;> simp
theorem three (c : Int) : c = 2 ∨ c = 3 ∨ (c != 2) = true ∧ (c != 3) = true := by
  simp only [bne_iff_ne, ne_eq]
  omega
set_option maxHeartbeats 1000000 in
set_option maxRecDepth 100000 in
theorem wordy_any (s : ByteArray) (w : World) : Calls Tryz.prog 171 #[.string s] w fun e w' => e = .returned (.bool (wordyB s)) ∧ Below w.heap.size w w' := by
  obtain ⟨ANS, hANS⟩ : ∃ ANS, wordyL (runes s.data.toList) = ANS := ⟨_, rfl⟩
  have HA : Hid (wordyB s = (ANS && decide (s.size ≠ 0))) := by unfold wordyB; rw [hANS]; exact rfl
  go_enter Tryz.func171, Tryz.ntmps171
  go_wp2
  go_loopw [4, 5] (fun _ _ w' => ∃ pos, w' = w.iter s pos ∧ wordyL (runes (s.data.toList.drop pos)) = ANS) (fun _ _ w' => s.size - w'.iterPos w.heap.size)
  case atStart => exact ⟨0, rfl, by simpa using hANS⟩
  case round =>
    obtain ⟨pos, rfl, hr⟩ := hrel
    clear hANS
    have HR := Lib.hid hr
    clear hr
    by_cases hp : pos < s.size
    · have hnx : ∀ ty, (Instr.next (.pointer (some ⟨w.heap.size, 0, none⟩)) true ty).run Tryz.prog (w.iter s pos) = _ := fun ty => run_next_any w s pos ty hp
      have hwd := Lib.decode_width_pos s pos hp
      have hle := decode_le' s pos
      obtain ⟨c, hc⟩ : ∃ c, cls ((Utf8.decode s pos).1 : Int) = c := ⟨_, rfl⟩
      have hC : ∀ w', Calls Tryz.prog 74 #[.int .i32 (Utf8.decode s pos).1] w' fun e w'' => e = .returned (.int .i64 c) ∧ w' = w'' := by
        subst hc
        exact fun w' => class_any _ w' (by omega) hle
      have HC := Lib.hid hC
      have HI : Hid (isW (Utf8.decode s pos).1 = (c == 2 || c == 3)) := isW_class hc
      have HRR : Hid (wordyL (runes (s.data.toList.drop pos)) = (isW (Utf8.decode s pos).1 && wordyL (runes (s.data.toList.drop (pos + (Utf8.decode s pos).2))))) := by
        rw [runes_at s pos hp]; exact rfl
      clear hC hc
      rcases three c with rfl | rfl | ⟨n2, n3⟩
      · go_wp2_with (go_at_call 74; refine (HC.out _).mono ?_; rintro e w' ⟨rfl, rfl⟩)
        go_roundw
        case rel => exact ⟨_, rfl, by have h1 := HR.out; rw [HRR.out, HI.out] at h1; simpa using h1⟩
        case measure => simp; omega
      · go_wp2_with (go_at_call 74; refine (HC.out _).mono ?_; rintro e w' ⟨rfl, rfl⟩)
        go_roundw
        case rel => exact ⟨_, rfl, by have h1 := HR.out; rw [HRR.out, HI.out] at h1; simpa using h1⟩
        case measure => simp; omega
      · go_wp2_with (go_at_call 74; refine (HC.out _).mono ?_; rintro e w' ⟨rfl, rfl⟩)
        go_ret
        refine ⟨ret_bool ?_, below_iter _ _ _⟩
        have h1 := HR.out
        rw [HRR.out, HI.out] at h1
        rw [HA.out, ← h1]
        simp only [bne_iff_ne, ne_eq] at n2 n3
        simp [n2, n3]
    · have hnx : ∀ ty, (Instr.next (.pointer (some ⟨w.heap.size, 0, none⟩)) true ty).run Tryz.prog (w.iter s pos) = _ := fun ty => run_next_end w s pos ty hp
      go_wp2
      go_ret
      refine ⟨ret_bool ?_, below_iter _ _ _⟩
      have h1 := HR.out
      rw [runes_end s pos hp] at h1
      rw [HA.out, ← h1]
      simp only [wordyL, List.all_nil, Bool.true_and]
      exact ne_empty s
end Go.Proofs.YtgcfjkfipkfijaaGreatDoor
/-! Walks: Show, Name, Number, bad. -/
namespace Go.Proofs.YtgcfjkfipkfijaaGreatDoor
open Go Go.RowKit Go.Lib

theorem below_grow (w : World) (q : Nat) (os : Array Obj) : Below w.heap.size w (Sort.grow (w.drewN q) os) := by
  refine ⟨rfl, rfl, rfl, by simp [Sort.grow, World.drewN], fun k hk => ?_⟩
  show (w.heap ++ os)[k]? = _
  rw [Array.getElem?_append_left hk]
theorem wordyB_pos {s : ByteArray} (h : wordyB s = true) : 0 < s.size := by
  unfold wordyB at h
  rw [Bool.and_eq_true, decide_eq_true_eq] at h
  omega
set_option maxHeartbeats 1000000 in
theorem show_any (n : Int) (w : World) (h0 : -9223372036854775808 ≤ n) (h1 : n ≤ 9223372036854775807) (hT : Tabs w) :
    Calls Tryz.prog 66 #[.int .i64 n] w fun e w' => e = .returned (.string ⟨(Lib.itoa n).toArray⟩) ∧ Below w.heap.size w w' := by
  have HC := Lib.hid (Tryz.strconv_Itoa n h0 h1 w hT.pow)
  clear hT
  go_enter Tryz.func66, Tryz.ntmps66
  go_wp2_with (go_at_call 97; refine HC.out.mono ?_; rintro e w' ⟨rfl, k, os, rfl⟩)
  go_ret
  exact ⟨rfl, below_grow _ _ _⟩
theorem head_getD (s : ByteArray) (h : 0 < s.size) : s[0] = s.data.toList.getD 0 0 := by
  have h' : 0 < s.data.toList.length := by rw [size_data]; exact h
  rw [List.getD_eq_getElem?_getD, List.getElem?_eq_getElem h']
  rfl
set_option maxHeartbeats 1000000 in
theorem name_any (s : ByteArray) (w : World) (hs : s.size < 9223372036854775807) (hT : Tabs w) :
    Calls Tryz.prog 167 #[.string s] w fun e w' => e = .returned (.bool (nameB s)) ∧ Below w.heap.size w w' := by
  have HV := Lib.hid (Tryz.utf8_ValidString s w (by omega) hT.utf)
  clear hT
  obtain ⟨V, hV⟩ : ∃ V, Lib.validD s.data.toList = V := ⟨_, rfl⟩
  obtain ⟨W, hW⟩ : ∃ W, wordyB s = W := ⟨_, rfl⟩
  obtain ⟨n, hn⟩ : ∃ n : Nat, (runes s.data.toList).length = n := ⟨_, rfl⟩
  obtain ⟨c, hc⟩ : ∃ c : UInt8, s.data.toList.getD 0 0 = c := ⟨_, rfl⟩
  have HA : Hid (nameB s = (V && W && (decide (c.toNat < 48) || decide (57 < c.toNat)) && decide (n ≤ 12))) := by unfold nameB; rw [hV, hW, hn, hc]; exact rfl
  have HWd : Hid (∀ w, Calls Tryz.prog 171 #[.string s] w fun e w' => e = .returned (.bool W) ∧ Below w.heap.size w w') := fun w => by have := wordy_any s w; rw [hW] at this; exact this
  have HR : Hid (∀ w, Calls Tryz.prog 77 #[.string s] w fun e w' => e = .returned (.int .i64 n) ∧ ∃ pos, w' = w.iter s pos) := fun w => by
    have := Tryz.utf8_RuneCountInString s w hs; rw [runeCount_runes, hn] at this; exact this
  rw [hV] at HV
  cases V
  · go_enter Tryz.func167, Tryz.ntmps167
    go_wp2_with (go_at_call 170; refine HV.out.mono ?_; rintro e w1 ⟨rfl, hb1⟩)
    go_ret
    exact ⟨ret_bool (by rw [HA.out]; rfl), hb1⟩
  · cases W
    · clear hV hW hn hc
      go_enter Tryz.func167, Tryz.ntmps167
      go_wp2_with (first | (go_at_call 170; refine HV.out.mono ?_; rintro e w1 ⟨rfl, hb1⟩) | (go_at_call 171; refine (HWd.out _).mono ?_; rintro e w2 ⟨rfl, hb2⟩))
      go_ret
      exact ⟨ret_bool (by rw [HA.out]; rfl), hb1.trans (hb2.mono hb1.size)⟩
    · have h0 : 0 < s.size := wordyB_pos hW
      have hz : (0 : Int) < s.size := by omega
      have hh : s[0] = c := by rw [head_getD s h0]; exact hc
      have hlt := c.toNat_lt
      clear hV hW hn hc
      have hd : ((c.toNat : Int) < 48 ∧ decide ((c.toNat : Int) < 48) = true ∧ (decide (c.toNat < 48) || decide (57 < c.toNat)) = true) ∨
          (48 ≤ (c.toNat : Int) ∧ 57 < (c.toNat : Int) ∧ (decide (c.toNat < 48) || decide (57 < c.toNat)) = true) ∨
          (48 ≤ (c.toNat : Int) ∧ (c.toNat : Int) ≤ 57 ∧ (decide (c.toNat < 48) || decide (57 < c.toNat)) = false) := by
        rcases Nat.lt_or_ge c.toNat 48 with h1 | h1
        · exact .inl ⟨by omega, decide_eq_true (by omega), by simp [h1]⟩
        · rcases Nat.lt_or_ge 57 c.toNat with h2 | h2
          · exact .inr (.inl ⟨by omega, by omega, by simp [h2]⟩)
          · exact .inr (.inr ⟨by omega, by omega, by simp; omega⟩)
      rcases hd with ⟨d1, d2, hd⟩ | ⟨d1, d2, hd⟩ | ⟨d1, d2, hd⟩
      all_goals
        have HD := Lib.hid hd
        clear hd
        go_enter Tryz.func167, Tryz.ntmps167
        go_wp2_with (first | (go_at_call 170; refine HV.out.mono ?_; rintro e w1 ⟨rfl, hb1⟩) | (go_at_call 171; refine (HWd.out _).mono ?_; rintro e w2 ⟨rfl, hb2⟩) | (go_at_call 77; refine (HR.out _).mono ?_; rintro e w3 ⟨rfl, pos, rfl⟩))
        all_goals
          go_ret
          first
          | exact ⟨ret_bool (by rw [HA.out, HD.out]; simp <;> omega), hb1.trans (hb2.mono hb1.size)⟩
          | exact ⟨ret_bool (by rw [HA.out, HD.out]; simp <;> omega), (hb1.trans (hb2.mono hb1.size)).trans ((below_iter _ _ _).mono (Nat.le_trans hb1.size hb2.size))⟩
end Go.Proofs.YtgcfjkfipkfijaaGreatDoor
/-! Walks: Number, bad. -/
namespace Go.Proofs.YtgcfjkfipkfijaaGreatDoor
open Go Go.RowKit Go.Lib

theorem ret_ib {a : Int} {b : Bool} {p : Int × Bool} (h : (a, b) = p) : Ending.returned (.tuple #[.int .i64 a, .bool b]) = .returned (.tuple #[.int .i64 p.1, .bool p.2]) := by rw [← h]
theorem numB_bad {s : ByteArray} (h : s.size = 0 ∨ 19 < s.size ∨ 1 < s.size ∧ s.data.toList.getD 0 0 = 48) : numB s = (0, false) := by unfold numB; rw [if_pos h]
theorem numT_big {n : Nat} (h : 9223372036854775807 < n) : numT (some n) = (0, false) := if_pos h
theorem numT_ok {n : Nat} (h : ¬ 9223372036854775807 < n) : numT (some n) = ((n : Int), true) := if_neg h
theorem cls3 {r : Int} : cls r = 3 ↔ 48 ≤ r ∧ r ≤ 57 := by
  unfold cls
  repeat' split
  all_goals omega
theorem pow_next {a d p q : Nat} (ha : a < 10 ^ p) (hd : d ≤ 9) (hq : 1 ≤ q) : 10 * a + d < 10 ^ (p + q) := by
  have h1 : 10 ^ (p + 1) ≤ 10 ^ (p + q) := Nat.pow_le_pow_right (by omega) (by omega)
  rw [Nat.pow_succ] at h1
  omega
theorem pow_cap {a p : Nat} (ha : a < 10 ^ p) (hp : p ≤ 18) : a ≤ 999999999999999999 := by
  have h1 : 10 ^ p ≤ 10 ^ 18 := Nat.pow_le_pow_right (by omega) hp
  omega
theorem pow_cap' {a p : Nat} (ha : a < 10 ^ p) (hp : p ≤ 19) : a ≤ 9999999999999999999 := by
  have h1 : 10 ^ p ≤ 10 ^ 19 := Nat.pow_le_pow_right (by omega) hp
  omega
set_option maxHeartbeats 1000000 in
set_option maxRecDepth 100000 in
theorem number_any (s : ByteArray) (w : World) : Calls Tryz.prog 78 #[.string s] w fun e w' => e = .returned (.tuple #[.int .i64 (numB s).1, .bool (numB s).2]) ∧ Below w.heap.size w w' := by
  by_cases h0 : s.size = 0
  · have hE : s.toList.isEmpty = true := by
      have := ne_empty s; simp [h0] at this; simpa using this
    rw [numB_bad (.inl h0)]
    clear h0
    go_enter Tryz.func78, Tryz.ntmps78
    go_wp2
    go_ret2
    exact ⟨rfl, Below.refl _ _⟩
  have hE : s.toList.isEmpty = false := by
    have := ne_empty s; simp [h0] at this; simpa using this
  by_cases h19 : 19 < s.size
  · rw [numB_bad (.inr (.inl h19))]
    have hz : (19 : Int) < s.size := by omega
    clear h0 h19
    go_enter Tryz.func78, Tryz.ntmps78
    go_wp2
    go_ret2
    exact ⟨rfl, Below.refl _ _⟩
  have hz19 : (s.size : Int) ≤ 19 := by omega
  have hp0 : 0 < s.size := by omega
  have hz0 : (0 : Int) < s.size := by omega
  obtain ⟨c, hc⟩ : ∃ c : UInt8, s.data.toList.getD 0 0 = c := ⟨_, rfl⟩
  have hh : s[0] = c := by rw [head_getD s hp0]; exact hc
  have hlt := c.toNat_lt
  by_cases h1 : 1 < s.size ∧ c = 48
  · rw [numB_bad (.inr (.inr ⟨h1.1, by rw [hc]; exact h1.2⟩))]
    obtain ⟨h1, rfl⟩ := h1
    have hz1 : (1 : Int) < s.size := by omega
    clear hc h0 h19 h1
    go_enter Tryz.func78, Tryz.ntmps78
    go_wp2
    go_ret2
    exact ⟨rfl, Below.refl _ _⟩
  obtain ⟨ANS, hANS⟩ : ∃ ANS, numF 0 (runes s.data.toList) = ANS := ⟨_, rfl⟩
  have HA : Hid (numB s = numT ANS) := by
    unfold numB
    rw [if_neg (by rw [hc]; rintro (h | h | h); exact h0 h; exact h19 h; exact h1 h), hANS]
    exact rfl
  have hor : (s.size : Int) ≤ 1 ∨ (1 : Int) < s.size ∧ ((c.toNat : Int) == 48) = false := by
    rcases Nat.lt_or_ge 1 s.size with h | h
    · refine .inr ⟨by omega, ?_⟩
      rw [beq_eq_false_iff_ne]
      intro e
      exact h1 ⟨h, UInt8.toNat_inj.1 (by simpa using (by omega : c.toNat = 48))⟩
    · exact .inl (by omega)
  have H19 := Lib.hid h19
  clear hc h0 h19 h1
  rcases hor with hor | ⟨hor, hor2⟩
  all_goals
    go_enter Tryz.func78, Tryz.ntmps78
    go_wp2
    go_loopw [4, 6] (fun n _ w' => ∃ pos acc : Nat, w' = w.iter s pos ∧ n = .int .u64 acc ∧ acc < 10 ^ pos ∧ pos ≤ s.size ∧ numF acc (runes (s.data.toList.drop pos)) = ANS) (fun _ _ w' => s.size - w'.iterPos w.heap.size)
    case atStart => exact ⟨0, 0, rfl, rfl, by simp, by omega, by simpa using hANS⟩
    case round =>
      obtain ⟨pos, acc, rfl, rfl, hacc, hps, hr⟩ := hrel
      clear hANS
      have HR := Lib.hid hr
      have HACC := Lib.hid hacc
      have hcap := pow_cap' hacc (by omega)
      clear hr
      by_cases hp : pos < s.size
      · have hnx : ∀ ty, (Instr.next (.pointer (some ⟨w.heap.size, 0, none⟩)) true ty).run Tryz.prog (w.iter s pos) = _ := fun ty => run_next_any w s pos ty hp
        have hwd := Lib.decode_width_pos s pos hp
        have hle := decode_le' s pos
        have hft := decode_fits s pos hp
        have hcap2 := pow_cap hacc (by omega)
        clear hacc
        obtain ⟨cl, hcl⟩ : ∃ c, cls ((Utf8.decode s pos).1 : Int) = c := ⟨_, rfl⟩
        have hC : ∀ w', Calls Tryz.prog 74 #[.int .i32 (Utf8.decode s pos).1] w' fun e w'' => e = .returned (.int .i64 cl) ∧ w' = w'' := by
          subst hcl
          exact fun w' => class_any _ w' (by omega) hle
        have HC := Lib.hid hC
        have HRR : Hid (numF acc (runes (s.data.toList.drop pos)) = if cl = 3 then numF (10 * acc + ((Utf8.decode s pos).1 - 48)) (runes (s.data.toList.drop (pos + (Utf8.decode s pos).2))) else none) := by
          rw [runes_at s pos hp, ← hcl]; exact rfl
        by_cases h3 : cl = 3
        · subst h3
          obtain ⟨hd1, hd2⟩ := cls3.1 hcl
          clear hC hcl
          go_wp2_with (go_at_call 74; refine (HC.out _).mono ?_; rintro e w' ⟨rfl, rfl⟩)
          go_roundw
          case rel =>
            have h1 := HR.out
            rw [HRR.out, if_pos trivial] at h1
            exact ⟨_, _, rfl, by congr 1; omega, pow_next HACC.out (by omega) hwd, hft, h1⟩
          case measure => simp; omega
        · have hb : (cl != 3) = true := by rw [bne_iff_ne]; exact h3
          have H3 := Lib.hid h3
          clear hC hcl h3
          go_wp2_with (go_at_call 74; refine (HC.out _).mono ?_; rintro e w' ⟨rfl, rfl⟩)
          go_ret2
          refine ⟨ret_ib ?_, below_iter _ _ _⟩
          have h1 := HR.out
          rw [HRR.out, if_neg H3.out] at h1
          rw [HA.out, ← h1]
          rfl
      · have hnx : ∀ ty, (Instr.next (.pointer (some ⟨w.heap.size, 0, none⟩)) true ty).run Tryz.prog (w.iter s pos) = _ := fun ty => run_next_end w s pos ty hp
        have HE : Hid (ANS = some acc) := by
          have h1 := HR.out
          rw [runes_end s pos hp] at h1
          exact h1.symm
        by_cases hbig : 9223372036854775807 < acc
        · have hz : (9223372036854775807 : Int) < acc := by omega
          clear hacc
          go_wp2
          go_ret2
          exact ⟨ret_ib (by rw [HA.out, HE.out, numT_big hbig]), below_iter _ _ _⟩
        · have hz : (acc : Int) ≤ 9223372036854775807 := by omega
          clear hacc
          go_wp2
          go_ret2
          exact ⟨ret_ib (by rw [HA.out, HE.out, numT_ok hbig]), below_iter _ _ _⟩
end Go.Proofs.YtgcfjkfipkfijaaGreatDoor
/-! A walk: bad. -/
namespace Go.Proofs.YtgcfjkfipkfijaaGreatDoor
open Go Go.RowKit Go.Lib

theorem iterPos_at {w : World} {k : Nat} {s : ByteArray} {p : Nat} (h : w.heap[k]? = some (.stringIter s p)) : w.iterPos k = p := by unfold World.iterPos; rw [h]
theorem ext_drop (s : ByteArray) (k : Nat) : (s.extract k s.size).data.toList = s.data.toList.drop k := Lib.ext_list s k
theorem decodeGo_ext (s : ByteArray) (k : Nat) (h : k < s.size) : Lib.decodeGo (s.extract k s.size) = Utf8.decode s k := by
  unfold Lib.decodeGo
  rw [if_neg (by rw [Lib.ext_size]; omega), ← decodeL_drop s k, ← ext_drop s k]
  have := decodeL_drop (s.extract k s.size) 0
  rw [← this]; rfl
set_option maxHeartbeats 1000000 in
set_option maxRecDepth 100000 in
theorem bad_any (s : ByteArray) (w : World) (hs : s.size ≤ 9223372036854775806) (hT : Tabs w) : Calls Tryz.prog 47 #[.string s] w fun e w' => e = .returned (.int .i64 (badF 0 (runes s.data.toList))) ∧ Below w.heap.size w w' := by
  obtain ⟨ANS, hANS⟩ : ∃ ANS, badF 0 (runes s.data.toList) = ANS := ⟨_, rfl⟩
  rw [hANS]
  have HT := Lib.hid hT
  clear hT
  go_enter Tryz.func47, Tryz.ntmps47
  go_wp2
  go_loopw [3, 4, 5, 6, 7] (fun a _ _ _ _ w' => ∃ pos k : Nat, a = .int .i64 k ∧ k ≤ pos ∧ pos ≤ s.size ∧ w'.heap[w.heap.size]? = some (.stringIter s pos) ∧ Below w.heap.size w w' ∧ badF k (runes (s.data.toList.drop pos)) = ANS) (fun _ _ _ _ _ w' => s.size - w'.iterPos w.heap.size)
  case atStart => exact ⟨0, 0, rfl, by omega, by omega, World.iter_heap w s 0, below_iter w s 0, by simpa using hANS⟩
  case round =>
    obtain ⟨pos, k, rfl, hkp, hps, hit, hbel, hr⟩ := hrel
    have HR := Lib.hid hr
    have HIT := Lib.hid hit
    have HB := Lib.hid hbel
    clear hr hANS
    obtain ⟨wo, hwo⟩ : ∃ wo : World, wo = wr := ⟨_, rfl⟩
    by_cases hp : pos < s.size
    · have hnx : ∀ ty, (Instr.next (.pointer (some ⟨w.heap.size, 0, none⟩)) true ty).run Tryz.prog wr = _ := fun ty => run_next_any_at wr w.heap.size s pos ty hit hp
      have hwd := Lib.decode_width_pos s pos hp
      have hle := decode_le' s pos
      have hft := decode_fits s pos hp
      obtain ⟨r, hr⟩ : ∃ r, (Utf8.decode s pos).1 = r := ⟨_, rfl⟩
      obtain ⟨wd, hw⟩ : ∃ wd, (Utf8.decode s pos).2 = wd := ⟨_, rfl⟩
      have HRR : Hid (badF k (runes (s.data.toList.drop pos)) = if (r, wd) = (65533, 1) then (k : Int) else badF (k + 1) (runes (s.data.toList.drop (pos + wd)))) := by
        rw [runes_at s pos hp, ← hr, ← hw]; exact rfl
      have hIT2 := iterAt_heap wr w.heap.size s pos (pos + wd) hit
      have hB2 := below_iterAt hbel (k := w.heap.size) (Nat.le_refl _) s (pos + wd)
      have HD : Hid (∀ W, Tabs W → Calls Tryz.prog 73 #[.string (s.extract pos s.size)] W fun e w' => e = .returned (.tuple #[.int .i32 r, .int .i64 wd]) ∧ Below W.heap.size W w') := fun W hW => by
        have := Tryz.utf8_DecodeRuneInString (s.extract pos s.size) W hW.utf
        rw [decodeGo_ext s pos hp, hr, hw] at this
        exact this
      rw [hr, hw] at hnx
      rw [hr] at hle
      rw [hw] at hwd hft
      obtain ⟨W2, hW2⟩ : ∃ W2, wr.iterAt w.heap.size s (pos + wd) = W2 := ⟨_, rfl⟩
      rw [hW2] at hnx hIT2 hB2
      have HIT2 := Lib.hid hIT2
      have HB2 := Lib.hid hB2
      have hposz : (pos : Int) ≤ s.size := by omega
      clear hit hbel hIT2 hB2 hr hw hW2 hwo wo
      by_cases h1 : r = 65533
      · by_cases h2 : wd = 1
        · subst h1 h2
          go_wp2_with (go_at_call 73; refine (HD.out _ (HT.out.below HB2.out)).mono ?_; rintro e w3 ⟨rfl, hb3⟩)
          go_ret
          refine ⟨ret_cls ?_, HB2.out.trans (hb3.mono HB2.out.size)⟩
          have h1 := HR.out
          rw [HRR.out] at h1
          simpa using h1
        · have c2 : ((wd : Int) == 1) = false := by rw [beq_eq_false_iff_ne]; omega
          have H2 := Lib.hid h2
          clear h2
          subst h1
          go_wp2_with (go_at_call 73; refine (HD.out _ (HT.out.below HB2.out)).mono ?_; rintro e w3 ⟨rfl, hb3⟩)
          go_roundw
          case rel =>
            have h1 := HR.out
            rw [HRR.out, if_neg (fun e => H2.out (congrArg Prod.snd e))] at h1
            have hlt : w.heap.size < W2.heap.size := (Array.getElem?_eq_some_iff.1 HIT2.out).1
            exact ⟨pos + wd, k + 1, by go_num, by omega, hft, (hb3.block _ hlt).trans HIT2.out, HB2.out.trans (hb3.mono HB2.out.size), by rw [← h1]; rfl⟩
          case measure =>
            have hlt : w.heap.size < W2.heap.size := (Array.getElem?_eq_some_iff.1 HIT2.out).1
            rw [iterPos_at ((hb3.block _ hlt).trans HIT2.out), iterPos_at HIT.out]
            omega
      · have c1 : ((r : Int) == 65533) = false := by rw [beq_eq_false_iff_ne]; omega
        have H1 := Lib.hid h1
        clear h1
        go_wp2_with fail
        go_roundw
        case rel =>
          have h1 := HR.out
          rw [HRR.out, if_neg (fun e => H1.out (congrArg Prod.fst e))] at h1
          exact ⟨pos + wd, k + 1, by go_num, by omega, hft, HIT2.out, HB2.out, by rw [← h1]; rfl⟩
        case measure =>
          rw [iterPos_at HIT2.out, iterPos_at HIT.out]
          omega
    · have hnx : ∀ ty, (Instr.next (.pointer (some ⟨w.heap.size, 0, none⟩)) true ty).run Tryz.prog wr = _ := fun ty => run_next_end_at wr w.heap.size s pos ty hit hp
      clear hit hbel hwo wo
      go_wp2
      go_ret
      refine ⟨ret_cls ?_, HB.out⟩
      have h1 := HR.out
      rw [runes_end s pos hp] at h1
      exact h1
end Go.Proofs.YtgcfjkfipkfijaaGreatDoor
