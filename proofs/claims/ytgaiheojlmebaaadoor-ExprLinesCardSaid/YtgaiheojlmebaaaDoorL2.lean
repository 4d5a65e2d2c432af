/- Walks through the functions of lex that go over a text rune by rune. -/
import Derived.Test.YtgaiheojlmebaaaDoorL1
import Derived.Test.YtgaiheojlmebaaaDoorTabs
namespace Go.Proofs.YtgaiheojlmebaaaDoor
open Go Go.RowKit Go.Lib

theorem ret_bool {a b : Bool} (h : a = b) : Ending.returned (.bool a) = .returned (.bool b) := by rw [h]
theorem size_data (s : ByteArray) : s.data.toList.length = s.size := by simp
theorem below_iter (w : World) (s : ByteArray) (pos : Nat) : Below w.heap.size w (w.iter s pos) := (Below.refl _ _).alloc (Nat.le_refl _) _

theorem isW_class {r : Nat} {c : Int} (h : cls (r : Int) = c) : isW r = (c == 2 || c == 3) := by unfold isW; rw [h]
theorem decode_le' (s : ByteArray) (pos : Nat) : ((Utf8.decode s pos).1 : Int) ≤ 2147483647 := by have := decode_le s pos; omega

theorem ne_empty (s : ByteArray) : (!s.toList.isEmpty) = decide (s.size ≠ 0) := by
  rw [Lib.toList_data, ← size_data]
  cases s.data.toList <;> simp
theorem three (c : Int) : c = 2 ∨ c = 3 ∨ (c != 2) = true ∧ (c != 3) = true := by
  simp only [bne_iff_ne, ne_eq]
  omega

set_option maxHeartbeats 1000000 in
set_option maxRecDepth 100000 in
theorem wordy_any (s : ByteArray) (w : World) : Calls Tryd.prog 92 #[.string s] w fun e w' => e = .returned (.bool (wordyB s)) ∧ Below w.heap.size w w' := by
  obtain ⟨ANS, hANS⟩ : ∃ ANS, wordyL (runes s.data.toList) = ANS := ⟨_, rfl⟩
  have HA : Hid (wordyB s = (ANS && decide (s.size ≠ 0))) := by unfold wordyB; rw [hANS]; exact rfl
  go_enter Tryd.func92, Tryd.ntmps92
  go_wp2
  go_loopw [4, 5] (fun _ _ w' => ∃ pos, w' = w.iter s pos ∧ wordyL (runes (s.data.toList.drop pos)) = ANS) (fun _ _ w' => s.size - w'.iterPos w.heap.size)
  case atStart => exact ⟨0, rfl, by simpa using hANS⟩
  case round =>
    obtain ⟨pos, rfl, hr⟩ := hrel
    clear hANS
    have HR := Lib.hid hr
    clear hr
    by_cases hp : pos < s.size
    · have hnx : ∀ ty, (Instr.next (.pointer (some ⟨w.heap.size, 0, none⟩)) true ty).run Tryd.prog (w.iter s pos) = _ := fun ty => run_next_any w s pos ty hp
      have hwd := Lib.decode_width_pos s pos hp
      have hle := decode_le' s pos
      obtain ⟨c, hc⟩ : ∃ c, cls ((Utf8.decode s pos).1 : Int) = c := ⟨_, rfl⟩
      have hC : ∀ w', Calls Tryd.prog 62 #[.int .i32 (Utf8.decode s pos).1] w' fun e w'' => e = .returned (.int .i64 c) ∧ w' = w'' := by
        subst hc
        exact fun w' => class_any _ w' (by omega) hle
      have HC := Lib.hid hC
      have HI : Hid (isW (Utf8.decode s pos).1 = (c == 2 || c == 3)) := isW_class hc
      have HRR : Hid (wordyL (runes (s.data.toList.drop pos)) = (isW (Utf8.decode s pos).1 && wordyL (runes (s.data.toList.drop (pos + (Utf8.decode s pos).2))))) := by
        rw [runes_at s pos hp]; exact rfl
      clear hC hc
      rcases three c with rfl | rfl | ⟨n2, n3⟩
      · go_wp2_with (go_at_call 62; refine (HC.out _).mono ?_; rintro e w' ⟨rfl, rfl⟩)
        go_roundw
        case rel => exact ⟨_, rfl, by have h1 := HR.out; rw [HRR.out, HI.out] at h1; simpa using h1⟩
        case measure => simp; omega
      · go_wp2_with (go_at_call 62; refine (HC.out _).mono ?_; rintro e w' ⟨rfl, rfl⟩)
        go_roundw
        case rel => exact ⟨_, rfl, by have h1 := HR.out; rw [HRR.out, HI.out] at h1; simpa using h1⟩
        case measure => simp; omega
      · go_wp2_with (go_at_call 62; refine (HC.out _).mono ?_; rintro e w' ⟨rfl, rfl⟩)
        go_ret
        refine ⟨ret_bool ?_, below_iter _ _ _⟩
        have h1 := HR.out
        rw [HRR.out, HI.out] at h1
        rw [HA.out, ← h1]
        simp only [bne_iff_ne, ne_eq] at n2 n3
        simp [n2, n3]
    · have hnx : ∀ ty, (Instr.next (.pointer (some ⟨w.heap.size, 0, none⟩)) true ty).run Tryd.prog (w.iter s pos) = _ := fun ty => run_next_end w s pos ty hp
      go_wp2
      go_ret
      refine ⟨ret_bool ?_, below_iter _ _ _⟩
      have h1 := HR.out
      rw [runes_end s pos hp] at h1
      rw [HA.out, ← h1]
      simp only [wordyL, List.all_nil, Bool.true_and]
      exact ne_empty s
end Go.Proofs.YtgaiheojlmebaaaDoor
