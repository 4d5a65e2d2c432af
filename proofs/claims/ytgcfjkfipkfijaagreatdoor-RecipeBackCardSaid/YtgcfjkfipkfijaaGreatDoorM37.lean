/- Walks: the reference holds trees against each other. -/
import Derived.Test.YtgcfjkfipkfijaaGreatDoorMH
namespace Go.Proofs.YtgcfjkfipkfijaaGreatDoor
open Go Go.RowKit Go.Lib

set_option maxHeartbeats 8000000 in
set_option maxRecDepth 100000 in
open Classical in
theorem xeq_step {P Q : Nat → Prop} (o n : Int) (nm : ByteArray) (ks : List Ex) (o' n' : Int) (nm' : ByteArray) (ks' : List Ex) (A : Option Addr) (c : Nat) (B : Option Addr) (d : Nat) (w : World) (ha : ExF P w (.mk o n nm ks) A c) (hb : ExF Q w (.mk o' n' nm' ks') B d)
    (ih : ∀ i (hi : i < ks.length) (hj : i < ks'.length) A' c' B' d' W, ExF P W ks[i] A' c' → ExF Q W ks'[i] B' d' → Calls Tryz.prog 64 #[exV ks[i] A' c', exV ks'[i] B' d'] W fun r w' => r = .returned (.bool (decide (ks[i] = ks'[i]))) ∧ Below W.heap.size W w') :
    Calls Tryz.prog 64 #[.agg #[.int .i64 o, .int .i64 n, .string nm, .slice A ks.length c], .agg #[.int .i64 o', .int .i64 n', .string nm', .slice B ks'.length d]] w fun r w' => r = .returned (.bool (decide (Ex.mk o n nm ks = .mk o' n' nm' ks'))) ∧ Below w.heap.size w w' := by
  have hra : RowF exK P w A c ks := ⟨ha.1, ha.2⟩
  have hrb : RowF exK Q w B d ks' := ⟨hb.1, hb.2⟩
  have hxm := (hra.2 [] (by simp)).1
  have hym := (hrb.2 [] (by simp)).1
  have hxc := hra.1
  have hyc := hrb.1
  obtain ⟨R, hR⟩ : ∃ q, decide (Ex.mk o n nm ks = .mk o' n' nm' ks') = q := ⟨_, rfl⟩
  rw [hR]
  obtain ⟨m, hm⟩ : ∃ n, ks.length = n := ⟨_, rfl⟩
  obtain ⟨m', hm'⟩ : ∃ n, ks'.length = n := ⟨_, rfl⟩
  have H := Lib.hid (⟨hra, hrb, ih, hm, hm', hR⟩ : _ ∧ _ ∧ _ ∧ _ ∧ _ ∧ _)
  rw [hm] at hxm hxc ⊢
  rw [hm'] at hym hyc ⊢
  clear hra hrb ha hb ih hm hm' hR
  obtain ⟨w0, hw0⟩ : ∃ w0, (w.alloc (.cells #[.int .i64 o, .int .i64 n, .string nm, .slice A m c] 41)).alloc (.cells #[.int .i64 o', .int .i64 n', .string nm', .slice B m' d] 41) = w0 := ⟨_, rfl⟩
  have hal : Below w.heap.size w w0 := hw0 ▸ ((Below.refl _ _).alloc (Nat.le_refl _) _).alloc (by simp) _
  have hx : w0.heap[w.heap.size]? = some (.cells #[.int .i64 o, .int .i64 n, .string nm, .slice A m c] 41 (0, 0)) := hw0 ▸ (Below.heap_alloc _ _ _ (by simp)).trans (heap_alloc_new _ _)
  have hy : w0.heap[w.heap.size + 1]? = some (.cells #[.int .i64 o', .int .i64 n', .string nm', .slice B m' d] 41 (0, 0)) := by
    have h := heap_alloc_new (w.alloc (.cells #[.int .i64 o, .int .i64 n, .string nm, .slice A m c] 41)) (.cells #[.int .i64 o', .int .i64 n', .string nm', .slice B m' d] 41)
    rw [hw0] at h
    simpa using h
  have HW0 := Lib.hid hw0
  have HX := Lib.hid hx
  have HY := Lib.hid hy
  have HAL := Lib.hid hal
  obtain ⟨x0, x1, x2, x3⟩ := blk4a hx
  obtain ⟨y0, y1, y2, y3⟩ := blk4a hy
  have hlx := blk_lt hx
  have hly := blk_lt hy
  clear hx hy hw0 hal
  by_cases he : o = o' ∧ n = n' ∧ nm = nm' ∧ m = m'
  · obtain ⟨rfl, rfl, rfl, rfl⟩ := he
    go_enter Tryz.func64, Tryz.ntmps64
    go_wp2_with fail
    rw [HW0.out]
    go_loopg [5] (m + 1) (fun k s5 w' => ∃ j : Nat, s5 = .int .i64 j ∧ j ≤ m ∧ m - j < k ∧ ks.take j = ks'.take j ∧ Below w0.heap.size w0 w')
    case atStart => exact ⟨0, rfl, by omega, by omega, by simp, Below.refl _ _⟩
    case round =>
      obtain ⟨j, rfl, hj, hjk, htk, hbw⟩ := hrel
      obtain ⟨gk, rfl⟩ : ∃ k, gk = k + 1 := ⟨gk - 1, by omega⟩
      have HBW := Lib.hid hbw
      have HXr := Lib.hid ((hbw.block _ (blk_lt HX.out)).trans HX.out)
      have HYr := Lib.hid ((hbw.block _ (blk_lt HY.out)).trans HY.out)
      clear x0 x1 x2 x3 y0 y1 y2 y3 hlx hly hbw
      obtain ⟨x0, x1, x2, x3⟩ := blk4a HXr.out
      obtain ⟨y0, y1, y2, y3⟩ := blk4a HYr.out
      have hlx := blk_lt HXr.out
      have hly := blk_lt HYr.out
      by_cases hlt : j < m
      · have hix : j < ks.length := by rw [H.out.2.2.2.1]; exact hlt
        have hiy : j < ks'.length := by rw [H.out.2.2.2.2.1]; exact hlt
        have hS : Below w.heap.size w wr := HAL.out.trans (HBW.out.mono HAL.out.size)
        obtain ⟨ad, rfl⟩ := row_ad H.out.1 j hix
        obtain ⟨bd, rfl⟩ := row_ad H.out.2.1 j hiy
        obtain ⟨A', c', ⟨p0, p1, p2, p3⟩, hux, hul⟩ := exf_some (H.out.1.below hS) j hix
        obtain ⟨B', d', ⟨q0, q1, q2, q3⟩, hvx, hvl⟩ := exf_some (H.out.2.1.below hS) j hiy
        have HCALL : Hid (∀ W, Below wr.heap.size wr W → _) := Lib.hid (fun W hW => H.out.2.2.1 j hix hiy A' c' B' d' W (hux.below hW) (hvx.below hW))
        obtain ⟨t, ht⟩ : ∃ q, decide (ks[j] = ks'[j]) = q := ⟨_, rfl⟩
        simp only [ht] at HCALL
        have HT := Lib.hid (⟨hix, hiy, ht, htk⟩ : ∃ (h1 : j < ks.length) (h2 : j < ks'.length), decide (ks[j] = ks'[j]) = t ∧ ks.take j = ks'.take j)
        obtain ⟨x, hxx⟩ : ∃ e, ks[j] = e := ⟨_, rfl⟩
        obtain ⟨y, hyy⟩ : ∃ e, ks'[j] = e := ⟨_, rfl⟩
        rw [hxx] at p0 p1 p2 p3
        rw [hyy] at q0 q1 q2 q3
        simp only [hxx, hyy] at HCALL
        have hz : (j : Int) < m := by omega
        have hz0 : (0 : Int) ≤ j := by omega
        have hzc : (j : Int) < c := by omega
        have hzd : (j : Int) < d := by omega
        clear hux hvx hxx hyy ht htk hS hix hiy
        go_wp2_with fail
        go_cut [6] (fun s6 wx => s6 = .bool t ∧ Below wr.heap.size wr wx)
        case first =>
          go_region_with ((go_at_call 64; refine (HCALL.out _ ?_).mono ?_; (first | exact Below.refl _ _ | exact (Below.refl _ _).drew); rintro r w5 ⟨rfl, hb5⟩; have HB5 := Lib.hid hb5; clear hb5))
          all_goals
            go_wp2_with fail
            go_meet
            exact ⟨rfl, by first | exact HB5.out | exact (Below.refl _ _).drew.trans HB5.out⟩
        case rest =>
          obtain ⟨rfl, hbx⟩ := hcut
          have HBX := Lib.hid (HBW.out.trans (hbx.mono HBW.out.size))
          clear hbx
          cases t
          · have HF : Hid (R = false) := Lib.hid (by
              obtain ⟨h1, h2, h3, _⟩ := HT.out
              rw [← H.out.2.2.2.2.2]
              exact decide_eq_false (fun e => ne_at h1 h2 (of_decide_eq_false h3) (by injection e)))
            go_wp2_with fail
            go_ret
            exact ⟨by rw [HF.out]; rfl, HAL.out.trans (HBX.out.mono HAL.out.size)⟩
          · go_wp2_with fail
            go_roundg gk
            case measure => omega
            case rel => exact ⟨j + 1, by go_num, by omega, by omega, by obtain ⟨h1, h2, h3, h4⟩ := HT.out; exact take_next h1 h2 h4 (of_decide_eq_true h3), HBX.out⟩
      · obtain rfl : j = m := by omega
        have HF : Hid (R = true) := Lib.hid (by
          rw [← H.out.2.2.2.2.2, take_eq H.out.2.2.2.1 H.out.2.2.2.2.1 htk rfl]
          exact decide_eq_true rfl)
        go_wp2_with fail
        go_ret
        exact ⟨by rw [HF.out]; rfl, HAL.out.trans (HBW.out.mono HAL.out.size)⟩
  · have HQ : Hid (R = false) := Lib.hid (by
      rw [← H.out.2.2.2.2.2]
      exact decide_eq_false (fun e => he (by injection e with e1 e2 e3 e4; exact ⟨e1, e2, e3, by rw [← H.out.2.2.2.1, ← H.out.2.2.2.2.1, e4]⟩)))
    have key : (o == o') = false ∨ o = o' ∧ ((n == n') = false ∨ n = n' ∧ ((nm.data.toList == nm'.data.toList) = false ∧ (nm.toList == nm'.toList) = false ∨ nm = nm' ∧ ((m : Int) == m') = false)) := by
      by_cases e1 : o = o'
      · refine .inr ⟨e1, ?_⟩
        by_cases e2 : n = n'
        · refine .inr ⟨e2, ?_⟩
          by_cases e3 : nm = nm'
          · exact .inr ⟨e3, beqf (fun e4 => he ⟨e1, e2, e3, by omega⟩)⟩
          · exact .inl (str_ne e3)
        · exact .inl (beqf e2)
      · exact .inl (beqf e1)
    rcases key with t1 | ⟨rfl, t1 | ⟨rfl, ⟨t1, t3⟩ | ⟨rfl, t1⟩⟩⟩
    all_goals
      have t2 := bne_of t1
      clear he
      go_enter Tryz.func64, Tryz.ntmps64
      go_wp2_with fail
      rw [HW0.out]
      go_ret
      exact ⟨by rw [HQ.out]; rfl, HAL.out⟩
open Classical in
theorem xeq_any' (N : Nat) : ∀ {P Q : Nat → Prop} (e f : Ex) (A : Option Addr) (c : Nat) (B : Option Addr) (d : Nat) (w : World), SizeOf.sizeOf e < N → ExF P w e A c → ExF Q w f B d →
    Calls Tryz.prog 64 #[exV e A c, exV f B d] w fun r w' => r = .returned (.bool (decide (e = f))) ∧ Below w.heap.size w w' := by
  induction N with
  | zero => intro P Q e f A c B d w h; omega
  | succ N ih =>
    intro P Q e f A c B d w hN ha hb
    obtain ⟨o, n, nm, ks⟩ := e
    obtain ⟨o', n', nm', ks'⟩ := f
    refine xeq_step o n nm ks o' n' nm' ks' A c B d w ha hb (fun i hi hj A' c' B' d' W h1 h2 => ih _ _ A' c' B' d' W ?_ h1 h2)
    have h1 : SizeOf.sizeOf ks[i] < SizeOf.sizeOf ks := List.sizeOf_lt_of_mem (List.getElem_mem hi)
    simp at hN
    omega
open Classical in
theorem xeq_any {P Q : Nat → Prop} (e f : Ex) (A : Option Addr) (c : Nat) (B : Option Addr) (d : Nat) (w : World) (ha : ExF P w e A c) (hb : ExF Q w f B d) :
    Calls Tryz.prog 64 #[exV e A c, exV f B d] w fun r w' => r = .returned (.bool (decide (e = f))) ∧ Below w.heap.size w w' := xeq_any' _ e f A c B d w (Nat.lt_succ_self _) ha hb
end Go.Proofs.YtgcfjkfipkfijaaGreatDoor
