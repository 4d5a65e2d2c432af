/- Part 2 of the proof of rtexts_card; no conditions. -/
import Derived.Test.YtgcfjkfipkfijaaGreatDoorTx01
import Derived.Lib.OthersKept
import Derived.Deep.RegionHeld3
import Derived.Deep.RegionLaw
import Derived.Laws.AppendOwn
import Derived.Laws.OwnMore
import Derived.Deep.AppendLies
import Derived.Deep.LoopGhost
import Derived.ChangeAlike
import Derived.RegionTactic
import Derived.BigQuiet
namespace Go.Proofs.YtgcfjkfipkfijaaGreatDoor
open Go Go.RowKit Go.Lib
theorem ret_bool {a b : Bool} (h : a = b) : Ending.returned (.bool a) = .returned (.bool b) := by rw [h]
theorem size_data (s : ByteArray) : s.data.toList.length = s.size := by simp
theorem below_iter (w : World) (s : ByteArray) (pos : Nat) : Below w.heap.size w (w.iter s pos) := (Below.refl _ _).alloc (Nat.le_refl _) _
theorem isW_class {r : Nat} {c : Int} (h : cls (r : Int) = c) : isW r = (c == 2 || c == 3) := by unfold isW; rw [h]
theorem decode_le' (s : ByteArray) (pos : Nat) : ((Utf8.decode s pos).1 : Int) ≤ 2147483647 := by have := decode_le s pos; omega
theorem ne_empty (s : ByteArray) : (!s.toList.isEmpty) = decide (s.size ≠ 0) := by
 rw [Lib.toList_data, ← size_data]
 cases s.data.toList <;> simp
theorem three (c : Int) : c = 2 ∨ c = 3 ∨ (c != 2) = true ∧ (c != 3) = true := by
 simp only [bne_iff_ne, ne_eq]
 omega
set_option maxHeartbeats 1000000 in
set_option maxRecDepth 100000 in
theorem wordy_any (s : ByteArray) (w : World) : Calls Tryz.prog 171 #[.string s] w fun e w' => e = .returned (.bool (wordyB s)) ∧ Below w.heap.size w w' := by
 obtain ⟨ANS, hANS⟩ : ∃ ANS, wordyL (runes s.data.toList) = ANS := ⟨_, rfl⟩
 have HA : Hid (wordyB s = (ANS && decide (s.size ≠ 0))) := by unfold wordyB; rw [hANS]; exact rfl
 go_enter Tryz.func171, Tryz.ntmps171
 go_wp2
 go_loopw [4, 5] (fun _ _ w' => ∃ pos, w' = w.iter s pos ∧ wordyL (runes (s.data.toList.drop pos)) = ANS) (fun _ _ w' => s.size - w'.iterPos w.heap.size)
 case atStart => exact ⟨0, rfl, by simpa using hANS⟩
 case round =>
  obtain ⟨pos, rfl, hr⟩ := hrel
  clear hANS
  have HR := Lib.hid hr
  clear hr
  by_cases hp : pos < s.size
  ·have hnx : ∀ ty, (Instr.next (.pointer (some ⟨w.heap.size, 0, none⟩)) true ty).run Tryz.prog (w.iter s pos) = _ := fun ty => run_next_any w s pos ty hp
   have hwd := Lib.decode_width_pos s pos hp
   have hle := decode_le' s pos
   obtain ⟨c, hc⟩ : ∃ c, cls ((Utf8.decode s pos).1 : Int) = c := ⟨_, rfl⟩
   have hC : ∀ w', Calls Tryz.prog 74 #[.int .i32 (Utf8.decode s pos).1] w' fun e w'' => e = .returned (.int .i64 c) ∧ w' = w'' := by
    subst hc
    exact fun w' => class_any _ w' (by omega) hle
   have HC := Lib.hid hC
   have HI : Hid (isW (Utf8.decode s pos).1 = (c == 2 || c == 3)) := isW_class hc
   have HRR : Hid (wordyL (runes (s.data.toList.drop pos)) = (isW (Utf8.decode s pos).1 && wordyL (runes (s.data.toList.drop (pos + (Utf8.decode s pos).2))))) := by
    rw [runes_at s pos hp]; exact rfl
   clear hC hc
   rcases three c with rfl | rfl | ⟨n2, n3⟩
   ·go_wp2_with (go_at_call 74; refine (HC.out _).mono ?_; rintro e w' ⟨rfl, rfl⟩)
    go_roundw
    case rel => exact ⟨_, rfl, by have h1 := HR.out; rw [HRR.out, HI.out] at h1; simpa using h1⟩
    case measure => simp; omega
   ·go_wp2_with (go_at_call 74; refine (HC.out _).mono ?_; rintro e w' ⟨rfl, rfl⟩)
    go_roundw
    case rel => exact ⟨_, rfl, by have h1 := HR.out; rw [HRR.out, HI.out] at h1; simpa using h1⟩
    case measure => simp; omega
   ·go_wp2_with (go_at_call 74; refine (HC.out _).mono ?_; rintro e w' ⟨rfl, rfl⟩)
    go_ret
    refine ⟨ret_bool ?_, below_iter _ _ _⟩
    have h1 := HR.out
    rw [HRR.out, HI.out] at h1
    rw [HA.out, ← h1]
    simp only [bne_iff_ne, ne_eq] at n2 n3
    simp [n2, n3]
  ·have hnx : ∀ ty, (Instr.next (.pointer (some ⟨w.heap.size, 0, none⟩)) true ty).run Tryz.prog (w.iter s pos) = _ := fun ty => run_next_end w s pos ty hp
   go_wp2
   go_ret
   refine ⟨ret_bool ?_, below_iter _ _ _⟩
   have h1 := HR.out
   rw [runes_end s pos hp] at h1
   rw [HA.out, ← h1]
   simp only [wordyL, List.all_nil, Bool.true_and]
   exact ne_empty s
end Go.Proofs.YtgcfjkfipkfijaaGreatDoor
namespace Go.Proofs.YtgcfjkfipkfijaaGreatDoor
open Go Go.RowKit Go.Lib
theorem below_grow (w : World) (q : Nat) (os : Array Obj) : Below w.heap.size w (Sort.grow (w.drewN q) os) := by
 refine ⟨rfl, rfl, rfl, by simp [Sort.grow, World.drewN], fun k hk => ?_⟩
 show (w.heap ++ os)[k]? = _
 rw [Array.getElem?_append_left hk]
theorem wordyB_pos {s : ByteArray} (h : wordyB s = true) : 0 < s.size := by
 unfold wordyB at h
 rw [Bool.and_eq_true, decide_eq_true_eq] at h
 omega
set_option maxHeartbeats 1000000 in
theorem show_any (n : Int) (w : World) (h0 : -9223372036854775808 ≤ n) (h1 : n ≤ 9223372036854775807) (hT : Tabs w) :
  Calls Tryz.prog 66 #[.int .i64 n] w fun e w' => e = .returned (.string ⟨(Lib.itoa n).toArray⟩) ∧ Below w.heap.size w w' := by
 have HC := Lib.hid (Tryz.strconv_Itoa n h0 h1 w hT.pow)
 clear hT
 go_enter Tryz.func66, Tryz.ntmps66
 go_wp2_with (go_at_call 97; refine HC.out.mono ?_; rintro e w' ⟨rfl, k, os, rfl⟩)
 go_ret
 exact ⟨rfl, below_grow _ _ _⟩
theorem head_getD (s : ByteArray) (h : 0 < s.size) : s[0] = s.data.toList.getD 0 0 := by
 have h' : 0 < s.data.toList.length := by rw [size_data]; exact h
 rw [List.getD_eq_getElem?_getD, List.getElem?_eq_getElem h']
 rfl
set_option maxHeartbeats 1000000 in
theorem name_any (s : ByteArray) (w : World) (hs : s.size < 9223372036854775807) (hT : Tabs w) :
  Calls Tryz.prog 167 #[.string s] w fun e w' => e = .returned (.bool (nameB s)) ∧ Below w.heap.size w w' := by
 have HV := Lib.hid (Tryz.utf8_ValidString s w (by omega) hT.utf)
 clear hT
 obtain ⟨V, hV⟩ : ∃ V, Lib.validD s.data.toList = V := ⟨_, rfl⟩
 obtain ⟨W, hW⟩ : ∃ W, wordyB s = W := ⟨_, rfl⟩
 obtain ⟨n, hn⟩ : ∃ n : Nat, (runes s.data.toList).length = n := ⟨_, rfl⟩
 obtain ⟨c, hc⟩ : ∃ c : UInt8, s.data.toList.getD 0 0 = c := ⟨_, rfl⟩
 have HA : Hid (nameB s = (V && W && (decide (c.toNat < 48) || decide (57 < c.toNat)) && decide (n ≤ 12))) := by unfold nameB; rw [hV, hW, hn, hc]; exact rfl
 have HWd : Hid (∀ w, Calls Tryz.prog 171 #[.string s] w fun e w' => e = .returned (.bool W) ∧ Below w.heap.size w w') := fun w => by have := wordy_any s w; rw [hW] at this; exact this
 have HR : Hid (∀ w, Calls Tryz.prog 77 #[.string s] w fun e w' => e = .returned (.int .i64 n) ∧ ∃ pos, w' = w.iter s pos) := fun w => by
  have := Tryz.utf8_RuneCountInString s w hs; rw [runeCount_runes, hn] at this; exact this
 rw [hV] at HV
 cases V
 ·go_enter Tryz.func167, Tryz.ntmps167
  go_wp2_with (go_at_call 170; refine HV.out.mono ?_; rintro e w1 ⟨rfl, hb1⟩)
  go_ret
  exact ⟨ret_bool (by rw [HA.out]; rfl), hb1⟩
 ·cases W
  ·clear hV hW hn hc
   go_enter Tryz.func167, Tryz.ntmps167
   go_wp2_with (first | (go_at_call 170; refine HV.out.mono ?_; rintro e w1 ⟨rfl, hb1⟩) | (go_at_call 171; refine (HWd.out _).mono ?_; rintro e w2 ⟨rfl, hb2⟩))
   go_ret
   exact ⟨ret_bool (by rw [HA.out]; rfl), hb1.trans (hb2.mono hb1.size)⟩
  ·have h0 : 0 < s.size := wordyB_pos hW
   have hz : (0 : Int) < s.size := by omega
   have hh : s[0] = c := by rw [head_getD s h0]; exact hc
   have hlt := c.toNat_lt
   clear hV hW hn hc
   have hd : ((c.toNat : Int) < 48 ∧ decide ((c.toNat : Int) < 48) = true ∧ (decide (c.toNat < 48) || decide (57 < c.toNat)) = true) ∨
     (48 ≤ (c.toNat : Int) ∧ 57 < (c.toNat : Int) ∧ (decide (c.toNat < 48) || decide (57 < c.toNat)) = true) ∨
     (48 ≤ (c.toNat : Int) ∧ (c.toNat : Int) ≤ 57 ∧ (decide (c.toNat < 48) || decide (57 < c.toNat)) = false) := by
    rcases Nat.lt_or_ge c.toNat 48 with h1 | h1
    ·exact .inl ⟨by omega, decide_eq_true (by omega), by simp [h1]⟩
    ·rcases Nat.lt_or_ge 57 c.toNat with h2 | h2
     ·exact .inr (.inl ⟨by omega, by omega, by simp [h2]⟩)
     ·exact .inr (.inr ⟨by omega, by omega, by simp; omega⟩)
   rcases hd with ⟨d1, d2, hd⟩ | ⟨d1, d2, hd⟩ | ⟨d1, d2, hd⟩
   all_goals
    have HD := Lib.hid hd
    clear hd
    go_enter Tryz.func167, Tryz.ntmps167
    go_wp2_with (first | (go_at_call 170; refine HV.out.mono ?_; rintro e w1 ⟨rfl, hb1⟩) | (go_at_call 171; refine (HWd.out _).mono ?_; rintro e w2 ⟨rfl, hb2⟩) | (go_at_call 77; refine (HR.out _).mono ?_; rintro e w3 ⟨rfl, pos, rfl⟩))
    all_goals
     go_ret
     first
     | exact ⟨ret_bool (by rw [HA.out, HD.out]; simp <;> omega), hb1.trans (hb2.mono hb1.size)⟩
     | exact ⟨ret_bool (by rw [HA.out, HD.out]; simp <;> omega), (hb1.trans (hb2.mono hb1.size)).trans ((below_iter _ _ _).mono (Nat.le_trans hb1.size hb2.size))⟩
end Go.Proofs.YtgcfjkfipkfijaaGreatDoor
namespace Go.Proofs.YtgcfjkfipkfijaaGreatDoor
open Go Go.RowKit Go.Lib
theorem ret_ib {a : Int} {b : Bool} {p : Int × Bool} (h : (a, b) = p) : Ending.returned (.tuple #[.int .i64 a, .bool b]) = .returned (.tuple #[.int .i64 p.1, .bool p.2]) := by rw [← h]
theorem numB_bad {s : ByteArray} (h : s.size = 0 ∨ 19 < s.size ∨ 1 < s.size ∧ s.data.toList.getD 0 0 = 48) : numB s = (0, false) := by unfold numB; rw [if_pos h]
theorem numT_big {n : Nat} (h : 9223372036854775807 < n) : numT (some n) = (0, false) := if_pos h
theorem numT_ok {n : Nat} (h : ¬ 9223372036854775807 < n) : numT (some n) = ((n : Int), true) := if_neg h
theorem cls3 {r : Int} : cls r = 3 ↔ 48 ≤ r ∧ r ≤ 57 := by
 unfold cls
 repeat' split
 all_goals omega
theorem pow_next {a d p q : Nat} (ha : a < 10 ^ p) (hd : d ≤ 9) (hq : 1 ≤ q) : 10 * a + d < 10 ^ (p + q) := by
 have h1 : 10 ^ (p + 1) ≤ 10 ^ (p + q) := Nat.pow_le_pow_right (by omega) (by omega)
 rw [Nat.pow_succ] at h1
 omega
theorem pow_cap {a p : Nat} (ha : a < 10 ^ p) (hp : p ≤ 18) : a ≤ 999999999999999999 := by
 have h1 : 10 ^ p ≤ 10 ^ 18 := Nat.pow_le_pow_right (by omega) hp
 omega
theorem pow_cap' {a p : Nat} (ha : a < 10 ^ p) (hp : p ≤ 19) : a ≤ 9999999999999999999 := by
 have h1 : 10 ^ p ≤ 10 ^ 19 := Nat.pow_le_pow_right (by omega) hp
 omega
set_option maxHeartbeats 1000000 in
set_option maxRecDepth 100000 in
theorem number_any (s : ByteArray) (w : World) : Calls Tryz.prog 78 #[.string s] w fun e w' => e = .returned (.tuple #[.int .i64 (numB s).1, .bool (numB s).2]) ∧ Below w.heap.size w w' := by
 by_cases h0 : s.size = 0
 ·have hE : s.toList.isEmpty = true := by
   have := ne_empty s; simp [h0] at this; simpa using this
  rw [numB_bad (.inl h0)]
  clear h0
  go_enter Tryz.func78, Tryz.ntmps78
  go_wp2
  go_ret2
  exact ⟨rfl, Below.refl _ _⟩
 have hE : s.toList.isEmpty = false := by
  have := ne_empty s; simp [h0] at this; simpa using this
 by_cases h19 : 19 < s.size
 ·rw [numB_bad (.inr (.inl h19))]
  have hz : (19 : Int) < s.size := by omega
  clear h0 h19
  go_enter Tryz.func78, Tryz.ntmps78
  go_wp2
  go_ret2
  exact ⟨rfl, Below.refl _ _⟩
 have hz19 : (s.size : Int) ≤ 19 := by omega
 have hp0 : 0 < s.size := by omega
 have hz0 : (0 : Int) < s.size := by omega
 obtain ⟨c, hc⟩ : ∃ c : UInt8, s.data.toList.getD 0 0 = c := ⟨_, rfl⟩
 have hh : s[0] = c := by rw [head_getD s hp0]; exact hc
 have hlt := c.toNat_lt
 by_cases h1 : 1 < s.size ∧ c = 48
 ·rw [numB_bad (.inr (.inr ⟨h1.1, by rw [hc]; exact h1.2⟩))]
  obtain ⟨h1, rfl⟩ := h1
  have hz1 : (1 : Int) < s.size := by omega
  clear hc h0 h19 h1
  go_enter Tryz.func78, Tryz.ntmps78
  go_wp2
  go_ret2
  exact ⟨rfl, Below.refl _ _⟩
 obtain ⟨ANS, hANS⟩ : ∃ ANS, numF 0 (runes s.data.toList) = ANS := ⟨_, rfl⟩
 have HA : Hid (numB s = numT ANS) := by
  unfold numB
  rw [if_neg (by rw [hc]; rintro (h | h | h); exact h0 h; exact h19 h; exact h1 h), hANS]
  exact rfl
 have hor : (s.size : Int) ≤ 1 ∨ (1 : Int) < s.size ∧ ((c.toNat : Int) == 48) = false := by
  rcases Nat.lt_or_ge 1 s.size with h | h
  ·refine .inr ⟨by omega, ?_⟩
   rw [beq_eq_false_iff_ne]
   intro e
   exact h1 ⟨h, UInt8.toNat_inj.1 (by simpa using (by omega : c.toNat = 48))⟩
  ·exact .inl (by omega)
 have H19 := Lib.hid h19
 clear hc h0 h19 h1
 rcases hor with hor | ⟨hor, hor2⟩
 all_goals
  go_enter Tryz.func78, Tryz.ntmps78
  go_wp2
  go_loopw [4, 6] (fun n _ w' => ∃ pos acc : Nat, w' = w.iter s pos ∧ n = .int .u64 acc ∧ acc < 10 ^ pos ∧ pos ≤ s.size ∧ numF acc (runes (s.data.toList.drop pos)) = ANS) (fun _ _ w' => s.size - w'.iterPos w.heap.size)
  case atStart => exact ⟨0, 0, rfl, rfl, by simp, by omega, by simpa using hANS⟩
  case round =>
   obtain ⟨pos, acc, rfl, rfl, hacc, hps, hr⟩ := hrel
   clear hANS
   have HR := Lib.hid hr
   have HACC := Lib.hid hacc
   have hcap := pow_cap' hacc (by omega)
   clear hr
   by_cases hp : pos < s.size
   ·have hnx : ∀ ty, (Instr.next (.pointer (some ⟨w.heap.size, 0, none⟩)) true ty).run Tryz.prog (w.iter s pos) = _ := fun ty => run_next_any w s pos ty hp
    have hwd := Lib.decode_width_pos s pos hp
    have hle := decode_le' s pos
    have hft := decode_fits s pos hp
    have hcap2 := pow_cap hacc (by omega)
    clear hacc
    obtain ⟨cl, hcl⟩ : ∃ c, cls ((Utf8.decode s pos).1 : Int) = c := ⟨_, rfl⟩
    have hC : ∀ w', Calls Tryz.prog 74 #[.int .i32 (Utf8.decode s pos).1] w' fun e w'' => e = .returned (.int .i64 cl) ∧ w' = w'' := by
     subst hcl
     exact fun w' => class_any _ w' (by omega) hle
    have HC := Lib.hid hC
    have HRR : Hid (numF acc (runes (s.data.toList.drop pos)) = if cl = 3 then numF (10 * acc + ((Utf8.decode s pos).1 - 48)) (runes (s.data.toList.drop (pos + (Utf8.decode s pos).2))) else none) := by
     rw [runes_at s pos hp, ← hcl]; exact rfl
    by_cases h3 : cl = 3
    ·subst h3
     obtain ⟨hd1, hd2⟩ := cls3.1 hcl
     clear hC hcl
     go_wp2_with (go_at_call 74; refine (HC.out _).mono ?_; rintro e w' ⟨rfl, rfl⟩)
     go_roundw
     case rel =>
      have h1 := HR.out
      rw [HRR.out, if_pos trivial] at h1
      exact ⟨_, _, rfl, by congr 1; omega, pow_next HACC.out (by omega) hwd, hft, h1⟩
     case measure => simp; omega
    ·have hb : (cl != 3) = true := by rw [bne_iff_ne]; exact h3
     have H3 := Lib.hid h3
     clear hC hcl h3
     go_wp2_with (go_at_call 74; refine (HC.out _).mono ?_; rintro e w' ⟨rfl, rfl⟩)
     go_ret2
     refine ⟨ret_ib ?_, below_iter _ _ _⟩
     have h1 := HR.out
     rw [HRR.out, if_neg H3.out] at h1
     rw [HA.out, ← h1]
     rfl
   ·have hnx : ∀ ty, (Instr.next (.pointer (some ⟨w.heap.size, 0, none⟩)) true ty).run Tryz.prog (w.iter s pos) = _ := fun ty => run_next_end w s pos ty hp
    have HE : Hid (ANS = some acc) := by
     have h1 := HR.out
     rw [runes_end s pos hp] at h1
     exact h1.symm
    by_cases hbig : 9223372036854775807 < acc
    ·have hz : (9223372036854775807 : Int) < acc := by omega
     clear hacc
     go_wp2
     go_ret2
     exact ⟨ret_ib (by rw [HA.out, HE.out, numT_big hbig]), below_iter _ _ _⟩
    ·have hz : (acc : Int) ≤ 9223372036854775807 := by omega
     clear hacc
     go_wp2
     go_ret2
     exact ⟨ret_ib (by rw [HA.out, HE.out, numT_ok hbig]), below_iter _ _ _⟩
end Go.Proofs.YtgcfjkfipkfijaaGreatDoor
namespace Go.Proofs.YtgcfjkfipkfijaaGreatDoor
open Go Go.RowKit Go.Lib
theorem iterPos_at {w : World} {k : Nat} {s : ByteArray} {p : Nat} (h : w.heap[k]? = some (.stringIter s p)) : w.iterPos k = p := by unfold World.iterPos; rw [h]
theorem ext_drop (s : ByteArray) (k : Nat) : (s.extract k s.size).data.toList = s.data.toList.drop k := Lib.ext_list s k
theorem decodeGo_ext (s : ByteArray) (k : Nat) (h : k < s.size) : Lib.decodeGo (s.extract k s.size) = Utf8.decode s k := by
 unfold Lib.decodeGo
 rw [if_neg (by rw [Lib.ext_size]; omega), ← decodeL_drop s k, ← ext_drop s k]
 have := decodeL_drop (s.extract k s.size) 0
 rw [← this]; rfl
set_option maxHeartbeats 1000000 in
set_option maxRecDepth 100000 in
theorem bad_any (s : ByteArray) (w : World) (hs : s.size ≤ 9223372036854775806) (hT : Tabs w) : Calls Tryz.prog 47 #[.string s] w fun e w' => e = .returned (.int .i64 (badF 0 (runes s.data.toList))) ∧ Below w.heap.size w w' := by
 obtain ⟨ANS, hANS⟩ : ∃ ANS, badF 0 (runes s.data.toList) = ANS := ⟨_, rfl⟩
 rw [hANS]
 have HT := Lib.hid hT
 clear hT
 go_enter Tryz.func47, Tryz.ntmps47
 go_wp2
 go_loopw [3, 4, 5, 6, 7] (fun a _ _ _ _ w' => ∃ pos k : Nat, a = .int .i64 k ∧ k ≤ pos ∧ pos ≤ s.size ∧ w'.heap[w.heap.size]? = some (.stringIter s pos) ∧ Below w.heap.size w w' ∧ badF k (runes (s.data.toList.drop pos)) = ANS) (fun _ _ _ _ _ w' => s.size - w'.iterPos w.heap.size)
 case atStart => exact ⟨0, 0, rfl, by omega, by omega, World.iter_heap w s 0, below_iter w s 0, by simpa using hANS⟩
 case round =>
  obtain ⟨pos, k, rfl, hkp, hps, hit, hbel, hr⟩ := hrel
  have HR := Lib.hid hr
  have HIT := Lib.hid hit
  have HB := Lib.hid hbel
  clear hr hANS
  obtain ⟨wo, hwo⟩ : ∃ wo : World, wo = wr := ⟨_, rfl⟩
  by_cases hp : pos < s.size
  ·have hnx : ∀ ty, (Instr.next (.pointer (some ⟨w.heap.size, 0, none⟩)) true ty).run Tryz.prog wr = _ := fun ty => run_next_any_at wr w.heap.size s pos ty hit hp
   have hwd := Lib.decode_width_pos s pos hp
   have hle := decode_le' s pos
   have hft := decode_fits s pos hp
   obtain ⟨r, hr⟩ : ∃ r, (Utf8.decode s pos).1 = r := ⟨_, rfl⟩
   obtain ⟨wd, hw⟩ : ∃ wd, (Utf8.decode s pos).2 = wd := ⟨_, rfl⟩
   have HRR : Hid (badF k (runes (s.data.toList.drop pos)) = if (r, wd) = (65533, 1) then (k : Int) else badF (k + 1) (runes (s.data.toList.drop (pos + wd)))) := by
    rw [runes_at s pos hp, ← hr, ← hw]; exact rfl
   have hIT2 := iterAt_heap wr w.heap.size s pos (pos + wd) hit
   have hB2 := below_iterAt hbel (k := w.heap.size) (Nat.le_refl _) s (pos + wd)
   have HD : Hid (∀ W, Tabs W → Calls Tryz.prog 73 #[.string (s.extract pos s.size)] W fun e w' => e = .returned (.tuple #[.int .i32 r, .int .i64 wd]) ∧ Below W.heap.size W w') := fun W hW => by
    have := Tryz.utf8_DecodeRuneInString (s.extract pos s.size) W hW.utf
    rw [decodeGo_ext s pos hp, hr, hw] at this
    exact this
   rw [hr, hw] at hnx
   rw [hr] at hle
   rw [hw] at hwd hft
   obtain ⟨W2, hW2⟩ : ∃ W2, wr.iterAt w.heap.size s (pos + wd) = W2 := ⟨_, rfl⟩
   rw [hW2] at hnx hIT2 hB2
   have HIT2 := Lib.hid hIT2
   have HB2 := Lib.hid hB2
   have hposz : (pos : Int) ≤ s.size := by omega
   clear hit hbel hIT2 hB2 hr hw hW2 hwo wo
   by_cases h1 : r = 65533
   ·by_cases h2 : wd = 1
    ·subst h1 h2
     go_wp2_with (go_at_call 73; refine (HD.out _ (HT.out.below HB2.out)).mono ?_; rintro e w3 ⟨rfl, hb3⟩)
     go_ret
     refine ⟨ret_cls ?_, HB2.out.trans (hb3.mono HB2.out.size)⟩
     have h1 := HR.out
     rw [HRR.out] at h1
     simpa using h1
    ·have c2 : ((wd : Int) == 1) = false := by rw [beq_eq_false_iff_ne]; omega
     have H2 := Lib.hid h2
     clear h2
     subst h1
     go_wp2_with (go_at_call 73; refine (HD.out _ (HT.out.below HB2.out)).mono ?_; rintro e w3 ⟨rfl, hb3⟩)
     go_roundw
     case rel =>
      have h1 := HR.out
      rw [HRR.out, if_neg (fun e => H2.out (congrArg Prod.snd e))] at h1
      have hlt : w.heap.size < W2.heap.size := (Array.getElem?_eq_some_iff.1 HIT2.out).1
      exact ⟨pos + wd, k + 1, by go_num, by omega, hft, (hb3.block _ hlt).trans HIT2.out, HB2.out.trans (hb3.mono HB2.out.size), by rw [← h1]; rfl⟩
     case measure =>
      have hlt : w.heap.size < W2.heap.size := (Array.getElem?_eq_some_iff.1 HIT2.out).1
      rw [iterPos_at ((hb3.block _ hlt).trans HIT2.out), iterPos_at HIT.out]
      omega
   ·have c1 : ((r : Int) == 65533) = false := by rw [beq_eq_false_iff_ne]; omega
    have H1 := Lib.hid h1
    clear h1
    go_wp2_with fail
    go_roundw
    case rel =>
     have h1 := HR.out
     rw [HRR.out, if_neg (fun e => H1.out (congrArg Prod.fst e))] at h1
     exact ⟨pos + wd, k + 1, by go_num, by omega, hft, HIT2.out, HB2.out, by rw [← h1]; rfl⟩
    case measure =>
     rw [iterPos_at HIT2.out, iterPos_at HIT.out]
     omega
  ·have hnx : ∀ ty, (Instr.next (.pointer (some ⟨w.heap.size, 0, none⟩)) true ty).run Tryz.prog wr = _ := fun ty => run_next_end_at wr w.heap.size s pos ty hit hp
   clear hit hbel hwo wo
   go_wp2
   go_ret
   refine ⟨ret_cls ?_, HB.out⟩
   have h1 := HR.out
   rw [runes_end s pos hp] at h1
   exact h1
end Go.Proofs.YtgcfjkfipkfijaaGreatDoor
namespace Go.Proofs.YtgcfjkfipkfijaaGreatDoor
open Go Go.RowKit Go.Lib
theorem blk_cell {w : World} {g : Nat} {cs : Array Value} {t : TypeId} {fr : Nat × Nat} (h : w.heap[g]? = some (.cells cs t fr)) (i : Nat) : w.cell? ⟨g, i, none⟩ = cs[i]? := by simp [World.cell?, h]
theorem blk_frozen {w : World} {g : Nat} {cs : Array Value} {t : TypeId} (h : w.heap[g]? = some (.cells cs t (0, 0))) (i : Nat) : w.frozen? ⟨g, i, none⟩ = false := by simp [World.frozen?, h]
theorem blk_set {w : World} {g : Nat} {cs : Array Value} {t : TypeId} {fr : Nat × Nat} (h : w.heap[g]? = some (.cells cs t fr)) (i : Nat) (v : Value) : (w.setCell ⟨g, i, none⟩ v).heap[g]? = some (.cells (cs.setIfInBounds i v) t fr) := by simp [World.setCell, Array.getElem?_modify, h]
theorem blk_lt {w : World} {g : Nat} {o : Obj} (h : w.heap[g]? = some o) : g < w.heap.size := (Array.getElem?_eq_some_iff.1 h).1
theorem cell_iter {w : World} {a : Addr} {v : Value} (s : ByteArray) (pos : Nat) (h : w.cell? a = some v) : (w.iter s pos).cell? a = some v := ((below_iter w s pos).cell (World.block_lt_of_cell? w a h)).trans h
theorem frozen_iter {w : World} {a : Addr} {v : Value} (s : ByteArray) (pos : Nat) (hc : w.cell? a = some v) (h : w.frozen? a = false) : (w.iter s pos).frozen? a = false := ((below_iter w s pos).frozen (World.block_lt_of_cell? w a hc)).trans h
theorem frozen_drew {w : World} {a : Addr} {b : Bool} (h : w.frozen? a = b) : w.drew.frozen? a = b := h
theorem cell_drew {w : World} {a : Addr} {v : Value} (h : w.cell? a = some v) : w.drew.cell? a = some v := h
def CutB (w : World) (g : Nat) (rest : ByteArray) (at_ : Int) (v : Value) : Prop := w.heap[g]? = some (.cells #[.string rest, .int .i64 at_, v] 84 (0, 0))
set_option maxHeartbeats 1000000 in
theorem pass_nat (g : Nat) (rest : ByteArray) (at_ : Int) (v : Value) (n : Nat) (w : World) (hb : CutB w g rest at_ v) (hn : n ≤ rest.size) (hs : rest.size ≤ 1000000) (ha0 : 0 ≤ at_) (ha : at_ ≤ 1000000) :
  Calls Tryz.prog 50 #[.pointer (some ⟨g, 0, none⟩), .int .i64 n] w fun e w' =>
   e = .returned (.tuple #[]) ∧ CutB w' g (rest.extract n rest.size) (at_ + (runes (rest.data.toList.take n)).length) v ∧ Same [g] w w' := by
 have hc0 : w.cell? ⟨g, 0, none⟩ = some (.string rest) := (blk_cell hb 0).trans rfl
 have hc1 : w.cell? ⟨g, 1, none⟩ = some (.int .i64 at_) := (blk_cell hb 1).trans rfl
 have hf0 := blk_frozen hb 0
 have hf1 := blk_frozen hb 1
 have HB := Lib.hid hb
 clear hb
 have hnz : (n : Int) ≤ rest.size := by omega
 have hz : (runeCount (rest.extract 0 n) : Int) ≤ 1000000 := by have := runeCount_le (rest.extract 0 n); simp at this; omega
 obtain ⟨RC, hRC⟩ : ∃ RC, runeCount (rest.extract 0 n) = RC := ⟨_, rfl⟩
 rw [hRC] at hz
 have hRC' : (runes (rest.data.toList.take n)).length = RC := by rw [← hRC, runeCount_runes]; congr 2; simp
 have HC : Hid (∀ W, Calls Tryz.prog 77 #[.string (rest.extract 0 n)] W fun e w' => e = .returned (.int .i64 RC) ∧ ∃ pos, w' = W.iter (rest.extract 0 n) pos) := fun W => by
  rw [← hRC]; exact Tryz.utf8_RuneCountInString _ W (by simp; omega)
 rw [hRC']
 clear hRC hRC'
 go_enter Tryz.func50, Tryz.ntmps50
 go_wp2_with fail
 have hsum : IntKind.i64.wrap (at_ + ↑RC) = at_ + ↑RC := IntWalk.i64_in _ (by omega)
 go_region_with (first | (go_at_call 77; refine (HC.out _).mono ?_; rintro e w' ⟨rfl, pos, rfl⟩; have q0 := cell_iter (rest.extract 0 n) pos (cell_drew hc0); have q1 := cell_iter (rest.extract 0 n) pos (cell_drew hc1); have qf0 := frozen_iter (rest.extract 0 n) pos (cell_drew hc0) (frozen_drew hf0); have qf1 := frozen_iter (rest.extract 0 n) pos (cell_drew hc1) (frozen_drew hf1)))
 all_goals
  go_wp2
  go_end0
  refine ⟨rfl, ?_, ?_⟩
  ·have h1 := blk_set (v := Value.int .i64 (at_ + ↑RC)) (show (w.drew.iter (rest.extract 0 n) pos).heap[g]? = _ from ((below_iter w.drew _ pos).block g (blk_lt HB.out)).trans HB.out) 1
   exact blk_set h1 0 _
  ·refine Same.setCell (Same.setCell ?_ (.inl (by simp)) _) (.inl (by simp)) _
   exact Same.alloc (Same.drew (Same.refl _ _)) _
theorem pass_any (g : Nat) (rest : ByteArray) (at_ : Int) (v : Value) (n : Int) (w : World) (hb : CutB w g rest at_ v) (hn0 : 0 ≤ n) (hn : n ≤ rest.size) (hs : rest.size ≤ 1000000) (ha0 : 0 ≤ at_) (ha : at_ ≤ 1000000) :
  Calls Tryz.prog 50 #[.pointer (some ⟨g, 0, none⟩), .int .i64 n] w fun e w' =>
   e = .returned (.tuple #[]) ∧ CutB w' g (rest.extract n.toNat rest.size) (at_ + (runes (rest.data.toList.take n.toNat)).length) v ∧ Same [g] w w' := by
 obtain ⟨k, rfl⟩ := Int.eq_ofNat_of_zero_le hn0
 rw [Int.toNat_natCast]
 exact pass_nat g rest at_ v k w hb (by omega) hs ha0 ha
end Go.Proofs.YtgcfjkfipkfijaaGreatDoor
namespace Go.Proofs.YtgcfjkfipkfijaaGreatDoor
open Go Go.RowKit
theorem below_drewN {B : Nat} {w W : World} (h : Below B w W) (n : Nat) : Below B w (W.drewN n) := ⟨h.os, h.tape, h.output, h.size, h.block⟩
theorem below_set4' {B k : Nat} {w W : World} (h : Below B w W) (hk : B ≤ k) (a b c d : Value) : Below B w ((((W.setCell ⟨k, 0, none⟩ a).setCell ⟨k, 1, none⟩ b).setCell ⟨k, 2, none⟩ c).setCell ⟨k, 3, none⟩ d) :=
 (((h.setCell hk a).setCell hk b).setCell hk c).setCell hk d
theorem row_some0 {α : Type} {d : Kind α} {M : List Nat} {w : World} {A : Option Addr} {xs : List α} (h : d.Row M w A xs) (hp : 0 < xs.length) : ∃ ad, A = some ad := by
 obtain ⟨ad, e, _⟩ := h.2 hp
 exact ⟨ad, e⟩
theorem getElem?_flatMap_const {α β : Type} {f : α → List β} {n : Nat} (hf : ∀ x, (f x).length = n) : ∀ (l : List α) (i j : Nat) (h : i < l.length), j < n → (l.flatMap f)[i * n + j]? = (f l[i])[j]?
 | x :: l, 0, j, _, hj => by
  rw [List.flatMap_cons, Nat.zero_mul, Nat.zero_add, List.getElem?_append_left (by rw [hf]; exact hj)]
  rfl
 | x :: l, i + 1, j, h, hj => by
  rw [List.flatMap_cons, List.getElem?_append_right (by rw [hf, Nat.succ_mul]; omega), hf]
  have : (i + 1) * n + j - n = i * n + j := by rw [Nat.succ_mul]; omega
  rw [this, getElem?_flatMap_const hf l i j (by simpa using h) hj]
  rfl
theorem row_of_own {α : Type} {d : Kind α} {enc : α → List Value} (hl : ∀ x, (enc x).length = d.sz) {w : World} {base : Nat} {e : TypeId} {v : Value} {xs : List α}
  (h : w.ownsRow base e d.sz v xs.length (xs.flatMap enc)) {M : List Nat} (hM : ∀ k, k ∈ M → k < base) (hr : ∀ x, x ∈ xs → d.rep M w x (enc x)) :
  ∃ A c, v = .slice A xs.length c ∧ xs.length ≤ c ∧ d.Row M w A xs := by
 rcases h.2 with ⟨rfl, h0⟩ | ⟨g, cap, cur, rfl, hg, hh, h1, h2, h3, h4⟩
 ·obtain rfl : xs = [] := List.eq_nil_of_length_eq_zero h0
  exact ⟨none, 0, rfl, Nat.le_refl _, Kind.Row.nil _ _ _ _⟩
 ·refine ⟨_, cap, rfl, h1, by simp only [maxLen] at h2; omega, fun hn => ⟨_, rfl, fun hc => ?_, (Array.getElem?_eq_some_iff.1 hh).1, fun i hi => ⟨enc xs[i], hr _ (List.getElem_mem hi), fun j u hu => ?_⟩⟩⟩
  ·have := hM _ hc
   simp at this
   omega
  ·have hj : j < d.sz := by
    rw [← hl xs[i]]
    exact (List.getElem?_eq_some_iff.1 hu).1
   exact h.cells (g := g) rfl (i * d.sz + j) u (by rw [getElem?_flatMap_const hl xs i j hi hj]; exact hu)
theorem own_block {w : World} {base n : Nat} {e : TypeId} {size : Nat} {v : Value} {xs : List Value} (h : w.ownsRow base e size v n xs) (k : Nat) (hk : v.ownBlock = some k) : base ≤ k ∧ k < w.heap.size := by
 rcases h.2 with ⟨rfl, _⟩ | ⟨g, cap, cur, rfl, hb, hh, _⟩
 ·simp [Value.ownBlock] at hk
 ·have : g = k := by simpa [Value.ownBlock] using hk
  subst this
  exact ⟨hb, (Array.getElem?_eq_some_iff.1 hh).1⟩
theorem own_below {w w1 : World} {base : Nat} {e : TypeId} {size : Nat} {v : Value} {n : Nat} {xs : List Value} (h : w.ownsRow base e size v n xs) (hb : Below w.heap.size w w1) : w1.ownsRow base e size v n xs :=
 h.kept (row := none) ⟨hb.os, hb.tape, hb.output, hb.size, fun i hi _ => hb.block i hi⟩ (by cases v.ownBlock <;> simp)
theorem own_same {w w1 : World} {base : Nat} {M : List Nat} {e : TypeId} {size : Nat} {v : Value} {n : Nat} {xs : List Value} (h : w.ownsRow base e size v n xs) (hs : Same M w w1) (hM : ∀ k, k ∈ M → k < base) : w1.ownsRow base e size v n xs := by
 refine ⟨h.1, ?_⟩
 rcases h.2 with h' | ⟨g, cap, cur, hv, hg, hh, r⟩
 ·exact .inl h'
 ·exact .inr ⟨g, cap, cur, hv, hg, hs.heap (fun hc => by have := hM _ hc; omega) hh, r⟩
theorem own_set {w : World} {base : Nat} {e : TypeId} {size : Nat} {v : Value} {n : Nat} {xs : List Value} (h : w.ownsRow base e size v n xs) {p : Addr} (hp : v.ownBlock ≠ some p.block) (u : Value) : (w.setCell p u).ownsRow base e size v n xs := by
 refine ⟨h.1, ?_⟩
 rcases h.2 with h' | ⟨g, cap, cur, hv, hg, hh, r⟩
 ·exact .inl h'
 ·exact .inr ⟨g, cap, cur, hv, hg, by rw [Below.heap_setCell _ _ _ _ (fun e => hp (by rw [hv, e]; rfl))]; exact hh, r⟩
def tokE (t : Tok) : List Value := [.int .i64 t.kind, .string t.text, .int .i64 t.n, .int .i64 t.at_]
theorem tokE_rep (M : List Nat) (w : World) (t : Tok) : tokK.rep M w t (tokE t) := ⟨[_], _, rfl, rfl, [_], _, rfl, rfl, [_], _, rfl, rfl, rfl⟩
theorem tokE_len (t : Tok) : (tokE t).length = tokK.sz := rfl
end Go.Proofs.YtgcfjkfipkfijaaGreatDoor
namespace Go.Proofs.YtgcfjkfipkfijaaGreatDoor
open Go Go.RowKit Go.Lib
abbrev exV (e : Ex) (A : Option Addr) (c : Nat) : Value := .agg #[.int .i64 e.op, .int .i64 e.n, .string e.name, .slice A e.kids.length c]
theorem line_q (op : Int) (w : World) : Calls Tryz.prog 172 #[.int .i64 op] w fun e w' => e = .returned (.int .i64 (eLine op)) ∧ w' = w := (line_any op w).mono (by rintro e w' ⟨rfl, rfl⟩; exact ⟨rfl, rfl⟩)
set_option maxHeartbeats 1000000 in
theorem wrapped_nat (e : Ex) (A : Option Addr) (c i : Nat) (w : World) (hr : exK.Row [] w A e.kids) (hi : i < e.kids.length) (_hlc : e.kids.length ≤ c) :
  Calls Tryz.prog 168 #[exV e A c, .int .i64 i] w fun r w' => r = .returned (.bool (eWrapped e.op e.kids[i].op i)) ∧ Below w.heap.size w w' := by
 obtain ⟨ad, A', c', hA, h0, h1, h2, h3, _, _, _⟩ := ex_at hr i hi
 subst hA
 obtain ⟨o1, ho1⟩ : ∃ o, e.op = o := ⟨_, rfl⟩
 obtain ⟨o2, ho2⟩ : ∃ o, e.kids[i].op = o := ⟨_, rfl⟩
 obtain ⟨L, hL⟩ : ∃ L, e.kids.length = L := ⟨_, rfl⟩
 have HX : Hid (eWrapped o1 o2 i = (decide (eLine o2 < eLine o1) || (eLine o2 == eLine o1 && decide (eLine o1 < 6) && ((i : Int) == 1 || eLine o1 == 3)))) := rfl
 unfold exV
 rw [ho2] at h0
 rw [ho1, ho2, hL]
 rw [hL] at hi
 have hlt := World.block_lt_of_cell? w _ h0
 have hz : (i : Int) < L := by omega
 have hz0 : (0 : Int) ≤ i := by omega
 clear h1 h2 h3 hr ho1 ho2 hL
 go_enter Tryz.func168, Tryz.ntmps168
 go_wp2_with fail
 go_quiet ((go_at_call 172; exact Calls.quiet_of_same (line_q _ _)))
 go_wp2_with fail
 all_goals
  go_ret
  refine ⟨ret_bool ?_, below_drewN ((Below.refl _ _).alloc (Nat.le_refl _) _) _⟩
  rw [HX.out]
  generalize eLine o1 = l1 at *
  generalize eLine o2 = l2 at *
  clear HX
  first
  | (simp [*]; done)
  | (simp [*]; omega)
theorem eTok_leaf_bad {e : Ex} {most : Int} (h : e.op = 0 ∨ e.op = 1) (h2 : 0 < e.kids.length ∨ e.op = 0 ∧ (e.n < 0 ∨ e.name.size ≠ 0) ∨ e.op = 1 ∧ (e.n ≠ 0 ∨ nameB e.name = false)) : eTok e most = -1 := by
 rw [e.eta, eTok, if_pos h, if_pos h2]
theorem eTok_leaf {e : Ex} {most : Int} (h : e.op = 0 ∨ e.op = 1) (h2 : ¬ (0 < e.kids.length ∨ e.op = 0 ∧ (e.n < 0 ∨ e.name.size ≠ 0) ∨ e.op = 1 ∧ (e.n ≠ 0 ∨ nameB e.name = false))) : eTok e most = 1 := by
 rw [e.eta, eTok, if_pos h, if_neg h2]
theorem eTok_bad {e : Ex} {most : Int} (h : ¬ (e.op = 0 ∨ e.op = 1)) (h2 : e.op < 0 ∨ 16 < e.op ∨ e.n ≠ 0 ∨ e.name.size ≠ 0 ∨ e.kids.length ≠ eParts e.op ∨ most < 1) : eTok e most = -1 := by
 rw [e.eta, eTok, if_neg h, if_pos h2]
theorem eTok_node {e : Ex} {most : Int} (h : ¬ (e.op = 0 ∨ e.op = 1)) (h2 : ¬ (e.op < 0 ∨ 16 < e.op ∨ e.n ≠ 0 ∨ e.name.size ≠ 0 ∨ e.kids.length ≠ eParts e.op ∨ most < 1)) : eTok e most = eToks e.op e.kids 0 1 most := by
 conv => lhs; rw [e.eta]
 rw [eTok, if_neg h, if_neg h2]
theorem isEmpty_of {s : ByteArray} (h : s.size ≠ 0) : s.toList.isEmpty = false := by have := ne_empty s; rw [decide_eq_true h] at this; simpa using this
theorem isEmpty_of' {s : ByteArray} (h : s.size = 0) : s.toList.isEmpty = true := by have := ne_empty s; rw [decide_eq_false (by omega)] at this; simpa using this
set_option maxHeartbeats 4000000 in
set_option maxRecDepth 100000 in
theorem tokens_leaf (e : Ex) (A : Option Addr) (c : Nat) (most : Int) (w : World) (hop : e.op = 0 ∨ e.op = 1) (hk : ExOk e) (hT : Tabs w) :
  Calls Tryz.prog 158 #[exV e A c, .int .i64 most] w fun r w' => r = .returned (.int .i64 (eTok e most)) ∧ Below w.heap.size w w' := by
 have hnl := hk.name
 have hX1 := eTok_leaf_bad (e := e) (most := most) hop
 have hX2 := eTok_leaf (e := e) (most := most) hop
 unfold exV
 obtain ⟨L, hL⟩ : ∃ L, e.kids.length = L := ⟨_, rfl⟩
 obtain ⟨o, ho⟩ : ∃ o, e.op = o := ⟨_, rfl⟩
 obtain ⟨n, hn⟩ : ∃ o, e.n = o := ⟨_, rfl⟩
 obtain ⟨nm, hnm⟩ : ∃ o, e.name = o := ⟨_, rfl⟩
 rw [hL, ho, hn, hnm] at hX1 hX2 ⊢
 rw [hnm] at hnl
 rw [ho] at hop
 clear hL ho hn hnm hk
 have HX1 := Lib.hid hX1
 have HX2 := Lib.hid hX2
 have HN := Lib.hid (fun W => name_any nm W (by omega))
 have HT := Lib.hid hT
 clear hX1 hX2 hT
 by_cases h0 : 0 < L
 ·have h0z : (0 : Int) < L := by omega
  have H := Lib.hid (HX1.out (.inl h0))
  clear h0
  rcases hop with rfl | rfl
  all_goals
   go_enter Tryz.func158, Tryz.ntmps158
   go_wp2_with fail
   go_ret
   exact ⟨ret_int H.out.symm, (Below.refl _ _).alloc (Nat.le_refl _) _⟩
 ·obtain rfl : L = 0 := by omega
  clear h0
  rcases hop with rfl | rfl
  ·by_cases hn : n < 0
   ·have H := Lib.hid (HX1.out (.inr (.inl ⟨rfl, .inl hn⟩)))
    go_enter Tryz.func158, Tryz.ntmps158
    go_wp2_with fail
    go_ret
    exact ⟨ret_int H.out.symm, (Below.refl _ _).alloc (Nat.le_refl _) _⟩
   ·have hn' : 0 ≤ n := by omega
    by_cases hm : nm.size = 0
    ·have he := isEmpty_of' hm
     have H := Lib.hid (HX2.out (by omega))
     clear hn hm
     go_enter Tryz.func158, Tryz.ntmps158
     go_wp2_with fail
     go_ret
     exact ⟨ret_int H.out.symm, (Below.refl _ _).alloc (Nat.le_refl _) _⟩
    ·have he := isEmpty_of hm
     have H := Lib.hid (HX1.out (.inr (.inl ⟨rfl, .inr hm⟩)))
     clear hn hm
     go_enter Tryz.func158, Tryz.ntmps158
     go_wp2_with fail
     go_ret
     exact ⟨ret_int H.out.symm, (Below.refl _ _).alloc (Nat.le_refl _) _⟩
  ·by_cases hn : n = 0
   ·subst hn
    have hbz : ∀ W, (w.alloc W).heap.size = (w.alloc W).heap.size := fun _ => rfl
    cases hB : nameB nm
    ·have H := Lib.hid (HX1.out (.inr (.inr ⟨rfl, .inr hB⟩)))
     rw [hB] at HN
     clear hB
     go_enter Tryz.func158, Tryz.ntmps158
     go_wp2_with (go_at_call 167; refine (HN.out _ (HT.out.alloc _)).mono ?_; rintro e w1 ⟨rfl, hb1⟩)
     go_ret
     exact ⟨ret_int H.out.symm, ((Below.refl _ _).alloc (Nat.le_refl _) _).trans (hb1.mono (by simp))⟩
    ·have H := Lib.hid (HX2.out (by simp [hB]))
     rw [hB] at HN
     clear hB
     go_enter Tryz.func158, Tryz.ntmps158
     go_wp2_with (go_at_call 167; refine (HN.out _ (HT.out.alloc _)).mono ?_; rintro e w1 ⟨rfl, hb1⟩)
     go_ret
     exact ⟨ret_int H.out.symm, ((Below.refl _ _).alloc (Nat.le_refl _) _).trans (hb1.mono (by simp))⟩
   ·have hnb : (n != 0) = true := by rw [bne_iff_ne]; exact hn
    have H := Lib.hid (HX1.out (.inr (.inr ⟨rfl, .inl hn⟩)))
    clear hn
    go_enter Tryz.func158, Tryz.ntmps158
    go_wp2_with fail
    go_ret
    exact ⟨ret_int H.out.symm, (Below.refl _ _).alloc (Nat.le_refl _) _⟩
end Go.Proofs.YtgcfjkfipkfijaaGreatDoor
namespace Go.Proofs.YtgcfjkfipkfijaaGreatDoor
open Go Go.RowKit Go.Lib
theorem beqf {a b : Int} (h : a ≠ b) : (a == b) = false := beq_eq_false_iff_ne.2 h
theorem bnet {a b : Int} (h : a ≠ b) : (a != b) = true := bne_iff_ne.2 h
theorem bnef {a b : Int} (h : a = b) : (a != b) = false := by rw [h]; simp
set_option maxHeartbeats 4000000 in
set_option maxRecDepth 100000 in
theorem tokens_bad (o n : Int) (nm : ByteArray) (ks : List Ex) (A : Option Addr) (c : Nat) (most : Int) (w : World) (hop : ¬ (o = 0 ∨ o = 1)) (hbad : o < 0 ∨ 16 < o ∨ n ≠ 0 ∨ nm.size ≠ 0 ∨ ks.length ≠ eParts o ∨ most < 1) :
  Calls Tryz.prog 158 #[.agg #[.int .i64 o, .int .i64 n, .string nm, .slice A ks.length c], .int .i64 most] w fun r w' => r = .returned (.int .i64 (-1)) ∧ Below w.heap.size w w' := by
 obtain ⟨P, hP⟩ : ∃ P : Int, (eParts o : Int) = P := ⟨_, rfl⟩
 have hbad : o < 0 ∨ 16 < o ∨ n ≠ 0 ∨ nm.size ≠ 0 ∨ (ks.length : Int) ≠ P ∨ most < 1 := by
  rcases hbad with h | h | h | h | h | h
  ·exact .inl h
  ·exact .inr (.inl h)
  ·exact .inr (.inr (.inl h))
  ·exact .inr (.inr (.inr (.inl h)))
  ·exact .inr (.inr (.inr (.inr (.inl (by omega)))))
  ·exact .inr (.inr (.inr (.inr (.inr h))))
 have hc : o = 2 ∧ P = 1 ∨ o = 3 ∧ P = 1 ∨ ((o == 0) = false ∧ (o == 1) = false ∧ (o == 2) = false ∧ (o == 3) = false ∧ P = 2) := by
  unfold eParts at hP
  by_cases h2 : o = 2
  ·subst h2; exact .inl ⟨rfl, by simp at hP; omega⟩
  ·by_cases h3 : o = 3
   ·subst h3; exact .inr (.inl ⟨rfl, by simp at hP; omega⟩)
   ·exact .inr (.inr ⟨beqf (fun e => hop (.inl e)), beqf (fun e => hop (.inr e)), beqf h2, beqf h3, by rw [if_neg (by omega)] at hP; omega⟩)
 clear hP hop
 have hwhy : (o < 0) ∨ (0 ≤ o ∧ 16 < o) ∨ (0 ≤ o ∧ o ≤ 16 ∧ (n != 0) = true) ∨ (0 ≤ o ∧ o ≤ 16 ∧ (n != 0) = false ∧ nm.toList.isEmpty = false) ∨
   (0 ≤ o ∧ o ≤ 16 ∧ (n != 0) = false ∧ nm.toList.isEmpty = true ∧ ((ks.length : Int) != P) = true) ∨ (0 ≤ o ∧ o ≤ 16 ∧ (n != 0) = false ∧ nm.toList.isEmpty = true ∧ ((ks.length : Int) != P) = false ∧ most < 1) := by
  by_cases h1 : o < 0
  ·exact .inl h1
  ·by_cases h2 : 16 < o
   ·exact .inr (.inl ⟨by omega, h2⟩)
   ·by_cases h3 : n = 0
    ·by_cases h4 : nm.size = 0
     ·by_cases h5 : (ks.length : Int) = P
      ·exact .inr (.inr (.inr (.inr (.inr ⟨by omega, by omega, bnef h3, isEmpty_of' h4, bnef h5, by omega⟩))))
      ·exact .inr (.inr (.inr (.inr (.inl ⟨by omega, by omega, bnef h3, isEmpty_of' h4, bnet h5⟩))))
     ·exact .inr (.inr (.inr (.inl ⟨by omega, by omega, bnef h3, isEmpty_of h4⟩)))
    ·exact .inr (.inr (.inl ⟨by omega, by omega, bnet h3⟩))
 clear hbad
 rcases hc with ⟨rfl, rfl⟩ | ⟨rfl, rfl⟩ | ⟨b0, b1, b2, b3, rfl⟩
 all_goals
  rcases hwhy with h1 | ⟨h1, h2⟩ | ⟨h1, h2, h3⟩ | ⟨h1, h2, h3, h4⟩ | ⟨h1, h2, h3, h4, h5⟩ | ⟨h1, h2, h3, h4, h5, h6⟩
  all_goals first | (exfalso; omega) | skip
  all_goals
   go_enter Tryz.func158, Tryz.ntmps158
   go_wp2_with fail
   go_ret
   exact ⟨rfl, (Below.refl _ _).alloc (Nat.le_refl _) _⟩
end Go.Proofs.YtgcfjkfipkfijaaGreatDoor
namespace Go.Proofs.YtgcfjkfipkfijaaGreatDoor
open Go Go.RowKit Go.Lib
def RdB (w : World) (g : Nat) (A : Option Addr) (n c : Nat) (first : Int) (s : St) : Prop :=
 w.heap[g]? = some (.cells #[.slice A n c, .int .i64 first, .int .i64 s.at_, .int .i64 s.bad] 161 (0, 0))
theorem RdB.same {w w' : World} {g : Nat} {A : Option Addr} {n c : Nat} {first : Int} {s : St} (h : RdB w g A n c first s) (hb : Below w.heap.size w w') : RdB w' g A n c first s := (hb.block g (blk_lt h)).trans h
abbrev tokV (t : Tok) : Value := .agg #[.int .i64 t.kind, .string t.text, .int .i64 t.n, .int .i64 t.at_]
theorem tok_some {M : List Nat} {w : World} {ad : Addr} {ks : List Tok} (h : tokK.Row M w (some ad) ks) (k : Nat) (hk : k < ks.length) :
  w.cell? (ad.add (k * 4)) = some (.int .i64 ks[k].kind) ∧ w.cell? ⟨(ad.add (k * 4)).block, (ad.add (k * 4)).off + 1, none⟩ = some (.string ks[k].text) ∧
   w.cell? ⟨(ad.add (k * 4)).block, (ad.add (k * 4)).off + 2, none⟩ = some (.int .i64 ks[k].n) ∧ w.cell? ⟨(ad.add (k * 4)).block, (ad.add (k * 4)).off + 3, none⟩ = some (.int .i64 ks[k].at_) := by
 obtain ⟨ad', e, h0, h1, h2, h3, _⟩ := tok_at h k hk
 injection e with e
 subst e
 exact ⟨h0, h1, h2, h3⟩
set_option maxHeartbeats 2000000 in
theorem rtoken_any (l : List Tok) (g : Nat) (A : Option Addr) (c : Nat) (first : Int) (s : St) (w : World) (hb : RdB w g A l.length c first s) (hr : tokK.Row [g] w A l) (hlc : l.length ≤ c) :
  Calls Tryz.prog 162 #[.pointer (some ⟨g, 0, none⟩)] w fun r w' => r = .returned (tokV (tokAt l s.at_)) ∧ Below w.heap.size w w' := by
 obtain ⟨at_, bad⟩ := s
 have hc0 : w.cell? ⟨g, 0, none⟩ = some (.slice A l.length c) := (blk_cell hb 0).trans rfl
 have hc2 : w.cell? ⟨g, 2, none⟩ = some (.int .i64 at_) := (blk_cell hb 2).trans rfl
 have hg := blk_lt hb
 have HR := Lib.hid hr
 have hm := hr.1
 clear hr hb
 by_cases h1 : at_ < 0
 ·have HX : Hid (tokAt l at_ = zTok) := by unfold tokAt; rw [if_pos (.inl h1)]; exact rfl
  have h1b : decide (at_ < 0) = true := decide_eq_true h1
  go_enter Tryz.func162, Tryz.ntmps162
  go_wp2_with fail
  go_quiet (fail)
  go_wp2_with fail
  refine bodyPost_ret (v := .agg #[.int .i64 0, .string ⟨#[]⟩, .int .i64 0, .int .i64 0]) (by simp [results, Tryz.results162, go_sem]) rfl ⟨by rw [HX.out]; rfl, ?_⟩
  exact below_set4' (below_drewN ((Below.refl _ _).alloc (Nat.le_refl _) _) _) (Nat.le_refl _) _ _ _ _
 ·by_cases h2 : (l.length : Int) ≤ at_
  ·have HX : Hid (tokAt l at_ = zTok) := by unfold tokAt; rw [if_pos (.inr h2)]; exact rfl
   have h1b : decide (at_ < 0) = false := decide_eq_false h1
   have h2b : decide ((l.length : Int) ≤ at_) = true := decide_eq_true h2
   go_enter Tryz.func162, Tryz.ntmps162
   go_wp2_with fail
   go_quiet (fail)
   go_wp2_with fail
   refine bodyPost_ret (v := .agg #[.int .i64 0, .string ⟨#[]⟩, .int .i64 0, .int .i64 0]) (by simp [results, Tryz.results162, go_sem]) rfl ⟨by rw [HX.out]; rfl, ?_⟩
   exact below_set4' (below_drewN ((Below.refl _ _).alloc (Nat.le_refl _) _) _) (Nat.le_refl _) _ _ _ _
  ·obtain ⟨k, rfl⟩ := Int.eq_ofNat_of_zero_le (show 0 ≤ at_ by omega)
   have hk : k < l.length := by omega
   obtain ⟨ad, rfl⟩ := row_some0 HR.out (by omega)
   obtain ⟨x0, x1, x2, x3⟩ := tok_some HR.out k hk
   have hlt := World.block_lt_of_cell? w _ x0
   have HX : Hid (tokAt l (k : Int) = l[k]) := by
    unfold tokAt
    rw [if_neg (by omega), Int.toNat_natCast, List.getD_eq_getElem?_getD, List.getElem?_eq_getElem hk]
    exact rfl
   have h1b : decide ((k : Int) < 0) = false := decide_eq_false h1
   have h2b : decide (l.length ≤ k) = false := decide_eq_false (by omega)
   have h2c : decide ((l.length : Int) ≤ (k : Int)) = false := decide_eq_false h2
   have hkz : (k : Int) < l.length := by omega
   have hk0 : (0 : Int) ≤ k := by omega
   have hlcz : (l.length : Int) ≤ c := by omega
   clear h1 h2
   go_enter Tryz.func162, Tryz.ntmps162
   go_wp2_with fail
   go_quiet (fail)
   go_wp2_with fail
   obtain ⟨w1, hw1⟩ : ∃ w1, (w.alloc (.cells #[.int .i64 0, .string ⟨#[]⟩, .int .i64 0, .int .i64 0] 60 (0, 0))).drewN nq = w1 := ⟨_, rfl⟩
   have hb1 : Below w.heap.size w w1 := hw1 ▸ below_drewN ((Below.refl _ _).alloc (Nat.le_refl _) _) _
   have hbb : w1.heap[w.heap.size]? = some (.cells #[.int .i64 0, .string ⟨#[]⟩, .int .i64 0, .int .i64 0] 60 (0, 0)) := by
    rw [← hw1]; exact heap_alloc_new _ _
   rw [hw1]
   have q0 := (hb1.cell hg).trans hc0
   have q2 := (hb1.cell hg).trans hc2
   have y0 := (hb1.cell hlt).trans x0
   have y1 := (hb1.cell (World.block_lt_of_cell? w _ x1)).trans x1
   have y2 := (hb1.cell (World.block_lt_of_cell? w _ x2)).trans x2
   have y3 := (hb1.cell (World.block_lt_of_cell? w _ x3)).trans x3
   have z0 := blk_cell hbb 0
   have z1 := blk_cell hbb 1
   have z2 := blk_cell hbb 2
   have z3 := blk_cell hbb 3
   have f0 := blk_frozen hbb 0
   have f1 := blk_frozen hbb 1
   have f2 := blk_frozen hbb 2
   have f3 := blk_frozen hbb 3
   simp only [List.getElem?_toArray, List.getElem?_cons_zero, List.getElem?_cons_succ] at z0 z1 z2 z3
   have HB := Lib.hid hb1
   clear hb1 hbb hw1
   go_region_with (fail)
   all_goals
    go_wp2
    refine bodyPost_ret (v := tokV l[k]) (by simp [results, Tryz.results162, go_sem, *]) rfl ⟨by rw [HX.out], ?_⟩
    exact Below.drew (below_set4' HB.out (Nat.le_refl _) _ _ _ _)
theorem fail_any (g : Nat) (A : Option Addr) (n c : Nat) (first : Int) (s : St) (w : World) (hb : RdB w g A n c first s) (x : Int) :
  Calls Tryz.prog 163 #[.pointer (some ⟨g, 0, none⟩), .int .i64 x] w fun r w' => r = .returned (exV zEx none 0) ∧ RdB w' g A n c first (failP x s) ∧ Same [g] w w' := by
 obtain ⟨at_, bad⟩ := s
 have hc3 : w.cell? ⟨g, 3, none⟩ = some (.int .i64 bad) := (blk_cell hb 3).trans rfl
 have hf3 := blk_frozen hb 3
 have hg := blk_lt hb
 have HB := Lib.hid hb
 clear hb
 by_cases h0 : bad = 0
 ·have hbt : (bad == 0) = true := beq_iff_eq.2 h0
  have HP : Hid (failP x ⟨at_, bad⟩ = ⟨at_, x⟩) := by unfold failP; rw [if_pos h0]; exact rfl
  go_enter Tryz.func163, Tryz.ntmps163
  go_wp2_with fail
  refine bodyPost_ret (v := exV zEx none 0) (by simp [results, Tryz.results163, go_sem, *] <;> exact ⟨rfl, rfl, rfl, rfl⟩) rfl ⟨rfl, ?_, ?_⟩
  ·rw [HP.out]
   exact (((Below.refl _ _).alloc (Nat.le_refl _) _).block g (by simpa using hg)).trans (blk_set HB.out 3 _)
  ·exact (Same.setCell (Same.refl _ _) (.inl (by simp)) _).alloc _
 ·have hbt : (bad == 0) = false := beq_eq_false_iff_ne.2 h0
  have HP : Hid (failP x ⟨at_, bad⟩ = ⟨at_, bad⟩) := by unfold failP; rw [if_neg h0]; exact rfl
  go_enter Tryz.func163, Tryz.ntmps163
  go_wp2_with fail
  refine bodyPost_ret (v := exV zEx none 0) (by simp [results, Tryz.results163, go_sem, *] <;> exact ⟨rfl, rfl, rfl, rfl⟩) rfl ⟨rfl, ?_, ?_⟩
  ·rw [HP.out]
   exact (((Below.refl _ _).alloc (Nat.le_refl _) _).block g hg).trans HB.out
  ·exact (Same.refl _ _).alloc _
theorem rpass_any (g : Nat) (A : Option Addr) (n c : Nat) (first : Int) (s : St) (w : World) (hb : RdB w g A n c first s) (h1 : first ≤ s.at_) (h2 : s.at_ ≤ first + 64) (h3 : s.at_ < 9223372036854775807) (h4 : -9223372036854775808 ≤ first) :
  Calls Tryz.prog 148 #[.pointer (some ⟨g, 0, none⟩)] w fun r w' => r = .returned (.bool (passP first s).1) ∧ RdB w' g A n c first (passP first s).2 ∧ Same [g] w w' := by
 obtain ⟨at_, bad⟩ := s
 have hc1 : w.cell? ⟨g, 1, none⟩ = some (.int .i64 first) := (blk_cell hb 1).trans rfl
 have hc2 : w.cell? ⟨g, 2, none⟩ = some (.int .i64 at_) := (blk_cell hb 2).trans rfl
 have hf2 := blk_frozen hb 2
 have hg := blk_lt hb
 simp only at h1 h2 h3
 have HB := Lib.hid hb
 clear hb
 have hsub : IntKind.i64.wrap (at_ - first) = at_ - first := IntWalk.i64_in _ (by omega)
 have hadd : IntKind.i64.wrap (at_ + 1) = at_ + 1 := IntWalk.i64_in _ (by omega)
 by_cases h0 : 64 ≤ at_ - first
 ·have hbt : decide (64 ≤ at_ - first) = true := decide_eq_true h0
  have HP : Hid (passP first ⟨at_, bad⟩ = (false, failP 2 ⟨at_, bad⟩)) := by unfold passP; rw [if_pos h0]; exact rfl
  go_enter Tryz.func148, Tryz.ntmps148
  go_wp2_with fail
  go_quiet (fail)
  go_wp2_with fail
  refine (fail_any g A n c first ⟨at_, bad⟩ _ (HB.out.same (below_drewN (Below.refl _ _) _)) 2).mono ?_
  rintro e w2 ⟨rfl, hb2, hs2⟩
  go_wp2_with fail
  refine bodyPost_ret (v := .bool false) (by simp [results, Tryz.results148, go_sem, *]) rfl ⟨by rw [HP.out], ?_, ?_⟩
  ·rw [HP.out]; exact hb2
  ·exact ((Same.refl [g] w).drewN nq).trans hs2 (fun _ h => .inl h)
 ·have hbt : decide (64 ≤ at_ - first) = false := decide_eq_false h0
  have HP : Hid (passP first ⟨at_, bad⟩ = (true, ⟨at_ + 1, bad⟩)) := by unfold passP; rw [if_neg h0]; exact rfl
  go_enter Tryz.func148, Tryz.ntmps148
  go_wp2_with fail
  go_quiet (fail)
  go_wp2_with fail
  refine bodyPost_ret (v := .bool true) (by simp [results, Tryz.results148, go_sem, *]) rfl ⟨by rw [HP.out], ?_, ?_⟩
  ·rw [HP.out]; exact blk_set (HB.out.same (below_drewN (Below.refl _ _) _)) 2 _
  ·exact Same.setCell ((Same.refl [g] w).drewN nq) (.inl (by simp)) _
end Go.Proofs.YtgcfjkfipkfijaaGreatDoor
namespace Go.Proofs.YtgcfjkfipkfijaaGreatDoor
open Go Go.RowKit Go.Lib
abbrev isV : Option Int → Value
 | some op => .tuple #[.int .i64 op, .bool true]
 | none => .tuple #[.int .i64 0, .bool false]
theorem sign_q (op : Int) (w : World) : Calls Tryz.prog 159 #[.int .i64 op] w fun e w' => e = .returned (.string (eSign op)) ∧ w' = w :=
 (sign_any op w).mono fun _ _ h => ⟨h.1, h.2.symm⟩
set_option maxHeartbeats 2000000 in
theorem ris_any (l : List Tok) (g : Nat) (A : Option Addr) (c : Nat) (first : Int) (s : St) (w : World) (hb : RdB w g A l.length c first s) (hr : tokK.Row [g] w A l) (hlc : l.length ≤ c) (a b : Int) (hab : a ≤ b + 1) (hb1 : b ≤ 1000) (ha1 : 0 ≤ a) :
  Calls Tryz.prog 147 #[.pointer (some ⟨g, 0, none⟩), .int .i64 a, .int .i64 b] w fun r w' => r = .returned (isV (isP l a b s)) ∧ Below w.heap.size w w' := by
 have HTOK := Lib.hid (rtoken_any l g A c first s w hb hr hlc)
 obtain ⟨at_, bad⟩ := s
 obtain ⟨ANS, hANS⟩ : ∃ r, isP l a b ⟨at_, bad⟩ = r := ⟨_, rfl⟩
 have HANS := Lib.hid hANS
 have hc3 : w.cell? ⟨g, 3, none⟩ = some (.int .i64 bad) := (blk_cell hb 3).trans rfl
 have HC3 := Lib.hid hc3
 rw [hANS]
 obtain ⟨t, ht⟩ : ∃ t, tokAt l at_ = t := ⟨_, rfl⟩
 unfold isP at HANS
 simp only [ht] at HANS HTOK
 clear hr hb hANS hc3
 go_enter Tryz.func147, Tryz.ntmps147
 go_wp2_with fail
 refine HTOK.out.mono ?_
 rintro e w1 ⟨rfl, hbl⟩
 have HBL := Lib.hid hbl
 clear hbl
 go_wp2_with fail
 obtain ⟨w2, hw2⟩ : ∃ w2, w1.alloc (.cells #[.int .i64 t.kind, .string t.text, .int .i64 t.n, .int .i64 t.at_] 60 (0, 0)) = w2 := ⟨_, rfl⟩
 have hb2 : w2.heap[w1.heap.size]? = some (.cells #[.int .i64 t.kind, .string t.text, .int .i64 t.n, .int .i64 t.at_] 60 (0, 0)) := by
  rw [← hw2]; exact heap_alloc_new _ _
 have HB2 : Hid (Below w.heap.size w w2) := Lib.hid (hw2 ▸ HBL.out.alloc (HBL.out.size) _)
 rw [hw2]
 have hk0 : w2.cell? ⟨w1.heap.size, 0, none⟩ = some (.int .i64 t.kind) := (blk_cell hb2 0).trans rfl
 have hk1 : w2.cell? ⟨w1.heap.size, 1, none⟩ = some (.string t.text) := (blk_cell hb2 1).trans rfl
 have hr3 : w2.cell? ⟨g, 3, none⟩ = some (.int .i64 bad) := (HB2.out.cell (p := ⟨g, 3, none⟩) (World.block_lt_of_cell? w _ HC3.out)).trans HC3.out
 have HK0 := Lib.hid hk0
 have HK1 := Lib.hid hk1
 have HR3 := Lib.hid hr3
 obtain ⟨B, hB⟩ : ∃ B, w1.heap.size = B := ⟨_, rfl⟩
 rw [hB] at HK0 HK1 ⊢
 clear hk0 hk1 hr3 hb2 hw2 hB
 go_loopg [9] ((b + 2 - a).toNat + 1) (fun k s9 w' => ∃ op : Int, s9 = .int .i64 op ∧ 0 ≤ op ∧ op ≤ b + 1 ∧ (b + 1 - op).toNat < k ∧ isF t bad (b - op + 1).toNat op = ANS ∧ Below w2.heap.size w2 w')
 case atStart => exact ⟨a, rfl, ha1, hab, by omega, HANS.out, Below.refl _ _⟩
 case round =>
  obtain ⟨op, rfl, ho0, hob, hok, hans, hbl⟩ := hrel
  obtain ⟨gk, rfl⟩ : ∃ k, gk = k + 1 := ⟨gk - 1, by omega⟩
  have HBW := Lib.hid hbl
  have HA := Lib.hid hans
  have k0 : wr.cell? ⟨B, 0, none⟩ = some (.int .i64 t.kind) := (hbl.cell (p := ⟨B, 0, none⟩) (World.block_lt_of_cell? w2 _ HK0.out)).trans HK0.out
  have k1 : wr.cell? ⟨B, 1, none⟩ = some (.string t.text) := (hbl.cell (p := ⟨B, 1, none⟩) (World.block_lt_of_cell? w2 _ HK1.out)).trans HK1.out
  have r3 : wr.cell? ⟨g, 3, none⟩ = some (.int .i64 bad) := (hbl.cell (p := ⟨g, 3, none⟩) (World.block_lt_of_cell? w2 _ HR3.out)).trans HR3.out
  clear hans hbl
  have hadd : IntKind.i64.wrap (op + 1) = op + 1 := IntWalk.i64_in _ (by omega)
  by_cases hle : op ≤ b
  ·have hleb : decide (op ≤ b) = true := decide_eq_true hle
   obtain ⟨n, hn⟩ : ∃ n, (b - op + 1).toNat = n + 1 := ⟨(b - op).toNat, by omega⟩
   have hn' : (b - (op + 1) + 1).toNat = n := by omega
   have h := HA.out
   rw [hn, isF] at h
   by_cases hk : t.kind = 4
   ·have hkb : (t.kind == 4) = true := beq_iff_eq.2 hk
    by_cases hbad : bad = 0
    ·have hbb : (bad == 0) = true := beq_iff_eq.2 hbad
     rw [if_pos ⟨hk, hbad⟩] at h
     obtain ⟨q, hq⟩ : ∃ q, seq (eSign op) t.text = q := ⟨_, rfl⟩
     have hq' : ((eSign op).toList == t.text.toList) = q := by rw [Lib.toList_data, Lib.toList_data]; exact hq
     rw [hq] at h
     have HE := Lib.hid h
     clear h hk hbad hle hq
     cases q
     ·go_wp2_with fail
      go_quiet ((go_at_call 159; exact Calls.quiet_of_same (sign_q op _)))
      go_wp2_with fail
      go_roundg gk
      case measure => omega
      case rel =>
       refine ⟨op + 1, rfl, by omega, by omega, by omega, ?_, below_drewN HBW.out _⟩
       rw [hn']
       simpa using HE.out
     ·go_wp2_with fail
      go_quiet ((go_at_call 159; exact Calls.quiet_of_same (sign_q op _)))
      go_wp2_with fail
      refine bodyPost_ret (results_tmp2 rfl _ _ _) rfl ⟨?_, HB2.out.trans (below_drewN (HBW.out.mono HB2.out.size) _)⟩
      have h : some op = ANS := by simpa using HE.out
      rw [← h]
      exact rfl
    ·have hbb : (bad == 0) = false := beq_eq_false_iff_ne.2 hbad
     rw [if_neg (fun h => hbad h.2)] at h
     have HE := Lib.hid h
     clear h hle
     go_wp2_with fail
     refine bodyPost_ret (results_tmp2 rfl _ _ _) rfl ⟨?_, HB2.out.trans (HBW.out.mono HB2.out.size)⟩
     rw [← HE.out]; exact rfl
   ·have hkb : (t.kind == 4) = false := beq_eq_false_iff_ne.2 hk
    rw [if_neg (fun h => hk h.1)] at h
    have HE := Lib.hid h
    clear h hle
    go_wp2_with fail
    refine bodyPost_ret (results_tmp2 rfl _ _ _) rfl ⟨?_, HB2.out.trans (HBW.out.mono HB2.out.size)⟩
    rw [← HE.out]; exact rfl
  ·have hleb : decide (op ≤ b) = false := decide_eq_false hle
   have h := HA.out
   rw [show (b - op + 1).toNat = 0 by omega, isF] at h
   have HE := Lib.hid h
   clear h
   go_wp2_with fail
   refine bodyPost_ret (results_tmp2 rfl _ _ _) rfl ⟨?_, HB2.out.trans (HBW.out.mono HB2.out.size)⟩
   rw [← HE.out]; exact rfl
end Go.Proofs.YtgcfjkfipkfijaaGreatDoor
