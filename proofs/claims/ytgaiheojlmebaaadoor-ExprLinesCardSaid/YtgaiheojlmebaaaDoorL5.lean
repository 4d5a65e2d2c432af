/- A walk: bad. -/
import Derived.Test.YtgaiheojlmebaaaDoorL4
namespace Go.Proofs.YtgaiheojlmebaaaDoor
open Go Go.RowKit Go.Lib

theorem iterPos_at {w : World} {k : Nat} {s : ByteArray} {p : Nat} (h : w.heap[k]? = some (.stringIter s p)) : w.iterPos k = p := by unfold World.iterPos; rw [h]
theorem ext_drop (s : ByteArray) (k : Nat) : (s.extract k s.size).data.toList = s.data.toList.drop k := Lib.ext_list s k
theorem decodeGo_ext (s : ByteArray) (k : Nat) (h : k < s.size) : Lib.decodeGo (s.extract k s.size) = Utf8.decode s k := by
  unfold Lib.decodeGo
  rw [if_neg (by rw [Lib.ext_size]; omega), ← decodeL_drop s k, ← ext_drop s k]
  have := decodeL_drop (s.extract k s.size) 0
  rw [← this]; rfl

set_option maxHeartbeats 1000000 in
set_option maxRecDepth 100000 in
theorem bad_any (s : ByteArray) (w : World) (hs : s.size ≤ 9223372036854775806) (hT : Tabs w) : Calls Tryd.prog 36 #[.string s] w fun e w' => e = .returned (.int .i64 (badF 0 (runes s.data.toList))) ∧ Below w.heap.size w w' := by
  obtain ⟨ANS, hANS⟩ : ∃ ANS, badF 0 (runes s.data.toList) = ANS := ⟨_, rfl⟩
  rw [hANS]
  have HT := Lib.hid hT
  clear hT
  go_enter Tryd.func36, Tryd.ntmps36
  go_wp2
  go_loopw [3, 4, 5, 6, 7] (fun a _ _ _ _ w' => ∃ pos k : Nat, a = .int .i64 k ∧ k ≤ pos ∧ pos ≤ s.size ∧ w'.heap[w.heap.size]? = some (.stringIter s pos) ∧ Below w.heap.size w w' ∧ badF k (runes (s.data.toList.drop pos)) = ANS) (fun _ _ _ _ _ w' => s.size - w'.iterPos w.heap.size)
  case atStart => exact ⟨0, 0, rfl, by omega, by omega, World.iter_heap w s 0, below_iter w s 0, by simpa using hANS⟩
  case round =>
    obtain ⟨pos, k, rfl, hkp, hps, hit, hbel, hr⟩ := hrel
    have HR := Lib.hid hr
    have HIT := Lib.hid hit
    have HB := Lib.hid hbel
    clear hr hANS
    obtain ⟨wo, hwo⟩ : ∃ wo : World, wo = wr := ⟨_, rfl⟩
    by_cases hp : pos < s.size
    · have hnx : ∀ ty, (Instr.next (.pointer (some ⟨w.heap.size, 0, none⟩)) true ty).run Tryd.prog wr = _ := fun ty => run_next_any_at wr w.heap.size s pos ty hit hp
      have hwd := Lib.decode_width_pos s pos hp
      have hle := decode_le' s pos
      have hft := decode_fits s pos hp
      obtain ⟨r, hr⟩ : ∃ r, (Utf8.decode s pos).1 = r := ⟨_, rfl⟩
      obtain ⟨wd, hw⟩ : ∃ wd, (Utf8.decode s pos).2 = wd := ⟨_, rfl⟩
      have HRR : Hid (badF k (runes (s.data.toList.drop pos)) = if (r, wd) = (65533, 1) then (k : Int) else badF (k + 1) (runes (s.data.toList.drop (pos + wd)))) := by
        rw [runes_at s pos hp, ← hr, ← hw]; exact rfl
      have hIT2 := iterAt_heap wr w.heap.size s pos (pos + wd) hit
      have hB2 := below_iterAt hbel (k := w.heap.size) (Nat.le_refl _) s (pos + wd)
      have HD : Hid (∀ W, Tabs W → Calls Tryd.prog 61 #[.string (s.extract pos s.size)] W fun e w' => e = .returned (.tuple #[.int .i32 r, .int .i64 wd]) ∧ Below W.heap.size W w') := fun W hW => by
        have := Tryd.utf8_DecodeRuneInString (s.extract pos s.size) W hW.utf
        rw [decodeGo_ext s pos hp, hr, hw] at this
        exact this
      rw [hr, hw] at hnx
      rw [hr] at hle
      rw [hw] at hwd hft
      obtain ⟨W2, hW2⟩ : ∃ W2, wr.iterAt w.heap.size s (pos + wd) = W2 := ⟨_, rfl⟩
      rw [hW2] at hnx hIT2 hB2
      have HIT2 := Lib.hid hIT2
      have HB2 := Lib.hid hB2
      have hposz : (pos : Int) ≤ s.size := by omega
      clear hit hbel hIT2 hB2 hr hw hW2 hwo wo
      by_cases h1 : r = 65533
      · by_cases h2 : wd = 1
        · subst h1 h2
          go_wp2_with (go_at_call 61; refine (HD.out _ (HT.out.below HB2.out)).mono ?_; rintro e w3 ⟨rfl, hb3⟩)
          go_ret
          refine ⟨ret_cls ?_, HB2.out.trans (hb3.mono HB2.out.size)⟩
          have h1 := HR.out
          rw [HRR.out] at h1
          simpa using h1
        · have c2 : ((wd : Int) == 1) = false := by rw [beq_eq_false_iff_ne]; omega
          have H2 := Lib.hid h2
          clear h2
          subst h1
          go_wp2_with (go_at_call 61; refine (HD.out _ (HT.out.below HB2.out)).mono ?_; rintro e w3 ⟨rfl, hb3⟩)
          go_roundw
          case rel =>
            have h1 := HR.out
            rw [HRR.out, if_neg (fun e => H2.out (congrArg Prod.snd e))] at h1
            have hlt : w.heap.size < W2.heap.size := (Array.getElem?_eq_some_iff.1 HIT2.out).1
            exact ⟨pos + wd, k + 1, by go_num, by omega, hft, (hb3.block _ hlt).trans HIT2.out, HB2.out.trans (hb3.mono HB2.out.size), by rw [← h1]; rfl⟩
          case measure =>
            have hlt : w.heap.size < W2.heap.size := (Array.getElem?_eq_some_iff.1 HIT2.out).1
            rw [iterPos_at ((hb3.block _ hlt).trans HIT2.out), iterPos_at HIT.out]
            omega
      · have c1 : ((r : Int) == 65533) = false := by rw [beq_eq_false_iff_ne]; omega
        have H1 := Lib.hid h1
        clear h1
        go_wp2_with fail
        go_roundw
        case rel =>
          have h1 := HR.out
          rw [HRR.out, if_neg (fun e => H1.out (congrArg Prod.fst e))] at h1
          exact ⟨pos + wd, k + 1, by go_num, by omega, hft, HIT2.out, HB2.out, by rw [← h1]; rfl⟩
        case measure =>
          rw [iterPos_at HIT2.out, iterPos_at HIT.out]
          omega
    · have hnx : ∀ ty, (Instr.next (.pointer (some ⟨w.heap.size, 0, none⟩)) true ty).run Tryd.prog wr = _ := fun ty => run_next_end_at wr w.heap.size s pos ty hit hp
      clear hit hbel hwo wo
      go_wp2
      go_ret
      refine ⟨ret_cls ?_, HB.out⟩
      have h1 := HR.out
      rw [runes_end s pos hp] at h1
      exact h1
end Go.Proofs.YtgaiheojlmebaaaDoor
