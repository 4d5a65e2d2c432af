/- Walks: a word, a text in quotes. -/
import Derived.Test.YtgaiheojlmebaaaDoorC2
namespace Go.Proofs.YtgaiheojlmebaaaDoor
open Go Go.RowKit Go.Lib

theorem wordN_cons (r : Nat × Nat) (rs : List (Nat × Nat)) : wordN (r :: rs) = if isW r.1 then r.2 + wordN rs else 0 := rfl

set_option maxHeartbeats 1000000 in
set_option maxRecDepth 100000 in
theorem word_any (g : Nat) (s : ByteArray) (at_ : Int) (v : Value) (w : World) (hb : CutB w g s at_ v) (hs : s.size ≤ 1000000) :
    Calls Tryd.prog 64 #[.pointer (some ⟨g, 0, none⟩)] w fun e w' => e = .returned (.int .i64 (wordN (runes s.data.toList))) ∧ Below w.heap.size w w' := by
  obtain ⟨ANS, hANS⟩ : ∃ ANS, wordN (runes s.data.toList) = ANS := ⟨_, rfl⟩
  rw [hANS]
  have hc0 : w.cell? ⟨g, 0, none⟩ = some (.string s) := (blk_cell hb 0).trans rfl
  have HC0 := Lib.hid hc0
  clear hb
  go_enter Tryd.func64, Tryd.ntmps64
  go_wp2
  go_loopw [3, 4, 5] (fun _ _ _ w' => ∃ pos, w' = w.iter s pos ∧ pos ≤ s.size ∧ pos + wordN (runes (s.data.toList.drop pos)) = ANS) (fun _ _ _ w' => s.size - w'.iterPos w.heap.size)
  case atStart => exact ⟨0, rfl, by omega, by simpa using hANS⟩
  case round =>
    obtain ⟨pos, rfl, hps, hr⟩ := hrel
    have HR := Lib.hid hr
    clear hr hANS hc0
    by_cases hp : pos < s.size
    · have hnx : ∀ ty, (Instr.next (.pointer (some ⟨w.heap.size, 0, none⟩)) true ty).run Tryd.prog (w.iter s pos) = _ := fun ty => run_next_any w s pos ty hp
      have hwd := Lib.decode_width_pos s pos hp
      have hft := decode_fits s pos hp
      have hle := decode_le' s pos
      obtain ⟨c, hc⟩ : ∃ c, cls ((Utf8.decode s pos).1 : Int) = c := ⟨_, rfl⟩
      have HC : Hid (∀ w', Calls Tryd.prog 62 #[.int .i32 (Utf8.decode s pos).1] w' fun e w'' => e = .returned (.int .i64 c) ∧ w' = w'') := by
        subst hc
        exact fun w' => class_any _ w' (by omega) hle
      have HI : Hid (isW (Utf8.decode s pos).1 = (c == 2 || c == 3)) := isW_class hc
      have HRR : Hid (wordN (runes (s.data.toList.drop pos)) = if isW (Utf8.decode s pos).1 then (Utf8.decode s pos).2 + wordN (runes (s.data.toList.drop (pos + (Utf8.decode s pos).2))) else 0) := by
        rw [runes_at s pos hp]; exact rfl
      clear hc
      rcases three c with rfl | rfl | ⟨n2, n3⟩
      · go_wp2_with (go_at_call 62; refine (HC.out _).mono ?_; rintro e w' ⟨rfl, rfl⟩)
        go_roundw
        case rel => exact ⟨_, rfl, hft, by have h1 := HR.out; rw [HRR.out, HI.out] at h1; simp at h1; omega⟩
        case measure => simp; omega
      · go_wp2_with (go_at_call 62; refine (HC.out _).mono ?_; rintro e w' ⟨rfl, rfl⟩)
        go_roundw
        case rel => exact ⟨_, rfl, hft, by have h1 := HR.out; rw [HRR.out, HI.out] at h1; simp at h1; omega⟩
        case measure => simp; omega
      · go_wp2_with (go_at_call 62; refine (HC.out _).mono ?_; rintro e w' ⟨rfl, rfl⟩)
        go_ret
        refine ⟨ret_cls ?_, below_iter _ _ _⟩
        have h1 := HR.out
        rw [HRR.out, HI.out] at h1
        simp only [bne_iff_ne, ne_eq] at n2 n3
        simp [n2, n3] at h1
        omega
    · have hnx : ∀ ty, (Instr.next (.pointer (some ⟨w.heap.size, 0, none⟩)) true ty).run Tryd.prog (w.iter s pos) = _ := fun ty => run_next_end w s pos ty hp
      have hc1 := cell_iter s pos HC0.out
      go_wp2
      go_ret
      refine ⟨ret_cls ?_, below_iter _ _ _⟩
      have h1 := HR.out
      rw [runes_end s pos hp] at h1
      simp only [wordN] at h1
      omega

theorem below_set4 {B k : Nat} {w W : World} (h : Below B w W) (hk : B ≤ k) (a b c d : Value) : Below B w ((((W.setCell ⟨k, 0, none⟩ a).setCell ⟨k, 1, none⟩ b).setCell ⟨k, 2, none⟩ c).setCell ⟨k, 3, none⟩ d) :=
  (((h.setCell hk a).setCell hk b).setCell hk c).setCell hk d
theorem cut_len (l sep : List UInt8) : (cut l sep).1.length ≤ l.length := by
  unfold cut
  split
  · simp; omega
  · simp

set_option maxHeartbeats 2000000 in
set_option maxRecDepth 100000 in
theorem ctext_any (g : Nat) (s : ByteArray) (at_ : Int) (v : Value) (w : World) (hb : CutB w g s at_ v) (hs : s.size ≤ 1000000) (hp : 0 < s.size) (hT : Tabs w) :
    Calls Tryd.prog 67 #[.pointer (some ⟨g, 0, none⟩)] w fun e w' =>
      (∃ t : Tok × Int × Int, t = textF s.data.toList ∧ e = .returned (.tuple #[.agg #[.int .i64 t.1.kind, .string t.1.text, .int .i64 t.1.n, .int .i64 t.1.at_], .int .i64 t.2.1, .int .i64 t.2.2])) ∧ Below w.heap.size w w' := by
  have hc0 : w.cell? ⟨g, 0, none⟩ = some (.string s) := (blk_cell hb 0).trans rfl
  have hz : (1 : Int) ≤ s.size := by omega
  have hg := blk_lt hb
  obtain ⟨m, hm⟩ := hT.len
  have hsz := hT.size
  have HM := Lib.hid hm
  obtain ⟨c1, hc1⟩ : ∃ c1, Lib.cut (s.data.toList.drop 1) [10] = c1 := ⟨_, rfl⟩
  obtain ⟨c2, hc2⟩ : ∃ c2, Lib.cut c1.1 [34] = c2 := ⟨_, rfl⟩
  have H1 : Hid (∀ W, W.cell? ⟨2, 0, none⟩ = some (.int .i64 m) → Calls Tryd.prog 97 #[.string (s.extract 1 s.size), .string ⟨#[10]⟩] W fun e w' => e = .returned (.tuple #[.string ⟨c1.1.toArray⟩, .string ⟨c1.2.1.toArray⟩, .bool c1.2.2]) ∧ ∃ n, w' = W.drewN n) := fun W hW => by
    have := Tryd.strings_Cut (s.extract 1 s.size) ⟨#[10]⟩ m W (by rw [Lib.ext_size]; omega) hW
    rw [ext_drop] at this
    rw [← hc1]
    exact this
  obtain ⟨u, hu⟩ : ∃ u : ByteArray, u = ⟨c1.1.toArray⟩ := ⟨_, rfl⟩
  have hu' : u.data.toList = c1.1 := by rw [hu]
  have hul : u.size ≤ s.size := by
    rw [← size_data, hu', ← hc1, ← size_data s]
    have := cut_len (s.data.toList.drop 1) [10]
    simp at this ⊢
    omega
  obtain ⟨t, ht⟩ : ∃ t : ByteArray, t = ⟨c2.1.toArray⟩ := ⟨_, rfl⟩
  have ht' : t.data.toList = c2.1 := by rw [ht]
  have htl : t.size ≤ s.size := by
    rw [← size_data, ht', ← hc2]
    have := cut_len c1.1 [34]
    rw [← hu', size_data] at this
    rw [← hu']
    omega
  have H2 : Hid (∀ W, W.cell? ⟨2, 0, none⟩ = some (.int .i64 m) → Calls Tryd.prog 97 #[.string u, .string ⟨#[34]⟩] W fun e w' => e = .returned (.tuple #[.string t, .string ⟨c2.2.1.toArray⟩, .bool c2.2.2]) ∧ ∃ n, w' = W.drewN n) := fun W hW => by
    have := Tryd.strings_Cut u ⟨#[34]⟩ m W (by omega) hW
    rw [hu'] at this
    rw [ht, ← hc2]
    exact this
  rw [← hu] at H1
  have HX : Hid (textF s.data.toList = if c2.2.2 = false then (zTok, 0, 11) else if (runes t.data.toList).any (fun r => decide (r.1 < 32)) then (zTok, 0, 11) else if 20 < (runes t.data.toList).length then (zTok, 0, 2) else (⟨3, t, 0, 0⟩, (t.size : Int) + 2, 0)) := by
    unfold textF
    rw [hc1, hc2, ← size_data t, ht', ht]
    exact rfl
  have HM1 : Hid (∀ n, ((w.alloc (.cells #[.int .i64 0, .string ⟨#[]⟩, .int .i64 0, .int .i64 0] 52)).drewN n).cell? ⟨2, 0, none⟩ = some (.int .i64 m)) := fun n =>
    (((Below.refl _ _).alloc (Nat.le_refl _) _).cell (World.block_lt_of_cell? w _ HM.out)).trans HM.out
  clear hu hu' ht hc1 hc2 hm hT HM1
  have HRC : Hid (∀ W, Calls Tryd.prog 65 #[.string t] W fun e w' => e = .returned (.int .i64 (runes t.data.toList).length) ∧ ∃ pos, w' = W.iter t pos) := fun W => by
    have := Tryd.utf8_RuneCountInString t W (by omega)
    rw [runeCount_runes] at this
    exact this
  obtain ⟨AN, hAN⟩ : ∃ AN, (runes t.data.toList).any (fun r => decide (r.1 < 32)) = AN := ⟨_, rfl⟩
  rw [hAN] at HX
  have HAN := Lib.hid hAN
  clear hAN
  go_enter Tryd.func67, Tryd.ntmps67
  go_wp2_with fail
  obtain ⟨w0, hw0⟩ : ∃ w0, w.alloc (.cells #[.int .i64 0, .string ⟨#[]⟩, .int .i64 0, .int .i64 0] 52) = w0 := ⟨_, rfl⟩
  have hk0 : w0.heap[w.heap.size]? = some (.cells #[.int .i64 0, .string ⟨#[]⟩, .int .i64 0, .int .i64 0] 52 (0, 0)) := by rw [← hw0]; exact heap_alloc_new _ _
  have hb0 : Below w.heap.size w w0 := by rw [← hw0]; exact (Below.refl _ _).alloc (Nat.le_refl _) _
  have hm0 := ((hb0.cell (World.block_lt_of_cell? w _ HM.out)).trans HM.out)
  have HK0 := Lib.hid hk0
  have HB0 := Lib.hid hb0
  rw [hw0]
  clear hw0 hb0 hc0
  refine (H1.out _ hm0).mono ?_
  rintro e w1 ⟨rfl, n1, rfl⟩
  go_wp2_with fail
  refine (H2.out (w0.drewN n1) hm0).mono ?_
  rintro e w2 ⟨rfl, n2, hw2⟩
  have hk2 : w2.heap[w.heap.size]? = some (.cells #[.int .i64 0, .string ⟨#[]⟩, .int .i64 0, .int .i64 0] 52 (0, 0)) := by rw [hw2]; exact HK0.out
  have hb2 : Below w.heap.size w w2 := by rw [hw2]; exact ⟨HB0.out.os, HB0.out.tape, HB0.out.output, HB0.out.size, HB0.out.block⟩
  clear hm0 hk0 hw2 HK0 HB0
  cases hok : c2.2.2
  · rw [hok] at HX H2
    have q0 := (blk_cell hk2 0).trans rfl
    have q1 := (blk_cell hk2 1).trans rfl
    have q2 := (blk_cell hk2 2).trans rfl
    have q3 := (blk_cell hk2 3).trans rfl
    have f0 := blk_frozen hk2 0
    have f1 := blk_frozen hk2 1
    have f2 := blk_frozen hk2 2
    have f3 := blk_frozen hk2 3
    have HB2 := Lib.hid hb2
    clear hk2 hb2
    go_wp2_with fail
    refine bodyPost_ret (v := .tuple #[.agg #[.int .i64 0, .string ⟨#[]⟩, .int .i64 0, .int .i64 0], .int .i64 0, .int .i64 11]) (by simp [results, Tryd.results67, go_sem, *]) rfl ⟨⟨(zTok, 0, 11), by rw [HX.out]; rfl, rfl⟩, ?_⟩
    exact below_set4 HB2.out (Nat.le_refl _) _ _ _ _
  · rw [hok] at HX H2
    have HK2 := Lib.hid hk2
    have HB2 := Lib.hid hb2
    clear hk2 hb2
    go_wp2_with fail
    go_loopw [12] (fun _ w' => ∃ pos, w' = w2.iter t pos ∧ (runes (t.data.toList.drop pos)).any (fun r => decide (r.1 < 32)) = AN) (fun _ w' => t.size - w'.iterPos w2.heap.size)
    case atStart => exact ⟨0, rfl, by simpa using HAN.out⟩
    case round =>
      obtain ⟨pos, rfl, hr⟩ := hrel
      have HR := Lib.hid hr
      clear hr
      by_cases hp' : pos < t.size
      · have hnx : ∀ ty, (Instr.next (.pointer (some ⟨w2.heap.size, 0, none⟩)) true ty).run Tryd.prog (w2.iter t pos) = _ := fun ty => run_next_any w2 t pos ty hp'
        have hwd := Lib.decode_width_pos t pos hp'
        have HRR : Hid ((runes (t.data.toList.drop pos)).any (fun r => decide (r.1 < 32)) = (decide ((Utf8.decode t pos).1 < 32) || (runes (t.data.toList.drop (pos + (Utf8.decode t pos).2))).any (fun r => decide (r.1 < 32)))) := by
          rw [runes_at t pos hp']; exact rfl
        rcases Nat.lt_or_ge (Utf8.decode t pos).1 32 with hlt | hge
        · have hltz : ((Utf8.decode t pos).1 : Int) < 32 := by omega
          have HD : Hid (decide ((Utf8.decode t pos).1 < 32) = true) := decide_eq_true hlt
          have hk3 : ∀ p, (w2.iter t p).heap[w.heap.size]? = _ := fun p => ((below_iter w2 t p).block _ (blk_lt HK2.out)).trans HK2.out
          have q0 := fun p => (blk_cell (hk3 p) 0).trans rfl
          have q1 := fun p => (blk_cell (hk3 p) 1).trans rfl
          have q2 := fun p => (blk_cell (hk3 p) 2).trans rfl
          have q3 := fun p => (blk_cell (hk3 p) 3).trans rfl
          have f0 := fun p => blk_frozen (hk3 p) 0
          have f1 := fun p => blk_frozen (hk3 p) 1
          have f2 := fun p => blk_frozen (hk3 p) 2
          have f3 := fun p => blk_frozen (hk3 p) 3
          clear hlt hk3
          go_wp2_with fail
          refine bodyPost_ret (v := .tuple #[.agg #[.int .i64 0, .string ⟨#[]⟩, .int .i64 0, .int .i64 0], .int .i64 0, .int .i64 11]) (by simp [results, Tryd.results67, go_sem, *]) rfl ⟨⟨(zTok, 0, 11), ?_, rfl⟩, ?_⟩
          · have h1 := HR.out
            rw [HRR.out, HD.out, Bool.true_or] at h1
            rw [HX.out, ← h1]; rfl
          · exact below_set4 (HB2.out.trans ((below_iter w2 t _).mono HB2.out.size)) (Nat.le_refl _) _ _ _ _
        · have hgez : (32 : Int) ≤ ((Utf8.decode t pos).1 : Int) := by omega
          have HD : Hid (decide ((Utf8.decode t pos).1 < 32) = false) := decide_eq_false (by omega)
          clear hge
          go_wp2_with fail
          go_roundw
          case rel => exact ⟨_, rfl, by have h1 := HR.out; rw [HRR.out, HD.out, Bool.false_or] at h1; exact h1⟩
          case measure => simp; omega
      · have hnx : ∀ ty, (Instr.next (.pointer (some ⟨w2.heap.size, 0, none⟩)) true ty).run Tryd.prog (w2.iter t pos) = _ := fun ty => run_next_end w2 t pos ty hp'
        have HE : Hid (AN = false) := by have h1 := HR.out; rw [runes_end t pos hp'] at h1; exact h1.symm
        go_wp2_with fail
        refine (HRC.out _).mono ?_
        rintro e w3 ⟨rfl, pos', rfl⟩
        obtain ⟨w4, hw4⟩ : ∃ w4, (w2.iter t pos).iter t pos' = w4 := ⟨_, rfl⟩
        have hb4 : Below w.heap.size w w4 := by
          have h1 := HB2.out.trans ((below_iter w2 t pos).mono HB2.out.size)
          rw [← hw4]
          exact h1.trans ((below_iter _ t pos').mono h1.size)
        have hk4 : w4.heap[w.heap.size]? = some (.cells #[.int .i64 0, .string ⟨#[]⟩, .int .i64 0, .int .i64 0] 52 (0, 0)) := by
          have h1 := ((below_iter w2 t pos).block _ (blk_lt HK2.out)).trans HK2.out
          rw [← hw4]
          exact ((below_iter _ t pos').block _ (blk_lt h1)).trans h1
        rw [hw4]
        have q0 := (blk_cell hk4 0).trans rfl
        have q1 := (blk_cell hk4 1).trans rfl
        have q2 := (blk_cell hk4 2).trans rfl
        have q3 := (blk_cell hk4 3).trans rfl
        have f0 := blk_frozen hk4 0
        have f1 := blk_frozen hk4 1
        have f2 := blk_frozen hk4 2
        have f3 := blk_frozen hk4 3
        have HB4 := Lib.hid hb4
        clear hw4 hb4 hk4 hnx
        obtain ⟨N, hN⟩ : ∃ N, (runes t.data.toList).length = N := ⟨_, rfl⟩
        rw [hN] at HX ⊢
        clear hN
        by_cases hN : 20 < N
        · have hNz : (20 : Int) < N := by omega
          have HN := Lib.hid hN
          clear hN
          go_wp2_with fail
          refine bodyPost_ret (v := .tuple #[.agg #[.int .i64 0, .string ⟨#[]⟩, .int .i64 0, .int .i64 0], .int .i64 0, .int .i64 2]) (by simp [results, Tryd.results67, go_sem, *]) rfl ⟨⟨(zTok, 0, 2), ?_, rfl⟩, below_set4 HB4.out (Nat.le_refl _) _ _ _ _⟩
          rw [HX.out, HE.out, if_pos HN.out]; rfl
        · have hNz : (N : Int) ≤ 20 := by omega
          have HN := Lib.hid hN
          clear hN
          have hts : (t.size : Int) ≤ 1000000 := by omega
          go_wp2_with fail
          refine bodyPost_ret (v := .tuple #[.agg #[.int .i64 3, .string t, .int .i64 0, .int .i64 0], .int .i64 (t.size + 2), .int .i64 0]) (by simp [results, Tryd.results67, go_sem, *]) rfl ⟨⟨(⟨3, t, 0, 0⟩, (t.size : Int) + 2, 0), ?_, rfl⟩, below_set4 HB4.out (Nat.le_refl _) _ _ _ _⟩
          rw [HX.out, HE.out, if_neg HN.out]; rfl
end Go.Proofs.YtgaiheojlmebaaaDoor
