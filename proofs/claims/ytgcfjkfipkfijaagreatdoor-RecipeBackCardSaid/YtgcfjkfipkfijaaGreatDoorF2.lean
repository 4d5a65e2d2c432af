/- Walks: a tree's weight comes to some number. -/
import Derived.Test.YtgcfjkfipkfijaaGreatDoorF1
namespace Go.Proofs.YtgcfjkfipkfijaaGreatDoor
open Go Go.RowKit Go.Lib

def WtPost (w : World) (r : Ending) (w' : World) : Prop := ∃ z : Int, r = .returned (.int .i64 z) ∧ 0 ≤ z ∧ z ≤ 400 ∧ Below w.heap.size w w'
set_option maxHeartbeats 8000000 in
set_option maxRecDepth 100000 in
theorem weight_step (o n : Int) (nm : ByteArray) (ks : List Ex) (A : Option Addr) (c : Nat) (most : Int) (w : World) (hm0 : 0 ≤ most) (hm : most ≤ 400) (hnm : nm.size ≤ 140737488355328) (ha : exK.Row [] w A ks) (hc : ks.length ≤ c)
    (ih : ∀ i (hi : i < ks.length) (A' : Option Addr) (c' : Nat) (m : Int) (W : World), 0 ≤ m → m ≤ 400 → exK.Row [] W A' ks[i].kids → ks[i].kids.length ≤ c' → Calls Tryz.prog 40 #[exV ks[i] A' c', .int .i64 m] W (WtPost W)) :
    Calls Tryz.prog 40 #[.agg #[.int .i64 o, .int .i64 n, .string nm, .slice A ks.length c], .int .i64 most] w (WtPost w) := by
  have HA := Lib.hid ha
  have HI := Lib.hid ih
  have hmax := ha.1
  have hzm : (ks.length : Int) ≤ 9223372036854775807 := by omega
  obtain ⟨w0, hw0⟩ : ∃ w0, w.alloc (.cells #[.int .i64 o, .int .i64 n, .string nm, .slice A ks.length c] 41) = w0 := ⟨_, rfl⟩
  have hal : Below w.heap.size w w0 := hw0 ▸ (Below.refl _ _).alloc (Nat.le_refl _) _
  have hx : w0.heap[w.heap.size]? = some (.cells #[.int .i64 o, .int .i64 n, .string nm, .slice A ks.length c] 41 (0, 0)) := hw0 ▸ heap_alloc_new _ _
  have HW0 := Lib.hid hw0
  have HX := Lib.hid hx
  have HAL := Lib.hid hal
  obtain ⟨⟨x0, x1, x2, x3⟩, _⟩ := blk4' hx
  clear ha ih hx hw0 hal
  by_cases h1 : most < ks.length
  · go_enter Tryz.func40, Tryz.ntmps40
    go_wp2_with fail
    go_ret
    exact ⟨0, rfl, by decide, by decide, by first | exact HAL.out | exact HW0.out ▸ HAL.out⟩
  have h1' : (ks.length : Int) ≤ most := by omega
  by_cases h2 : 200 < nm.size
  · have h2' : (200 : Int) < nm.size := by omega
    clear h1 h2
    go_enter Tryz.func40, Tryz.ntmps40
    go_wp2_with fail
    go_ret
    exact ⟨0, rfl, by decide, by decide, by first | exact HAL.out | exact HW0.out ▸ HAL.out⟩
  have h2' : (nm.size : Int) ≤ 200 := by omega
  clear h1 h2
  go_enter Tryz.func40, Tryz.ntmps40
  go_wp2_with fail
  rw [HW0.out]
  go_loopg [1, 5] (ks.length + 1) (fun k s1 s5 w' => ∃ (j : Nat) (m : Int), s5 = .int .i64 j ∧ s1 = .int .i64 m ∧ j ≤ ks.length ∧ ks.length - j < k ∧ -1 ≤ m ∧ m ≤ 400 ∧ Below w0.heap.size w0 w')
  case atStart => exact ⟨0, _, rfl, rfl, by omega, by omega, by omega, by omega, Below.refl _ _⟩
  case round =>
    obtain ⟨j, m, rfl, rfl, hj, hjk, hm1, hm2, hbw⟩ := hrel
    obtain ⟨gk, rfl⟩ : ∃ k, gk = k + 1 := ⟨gk - 1, by omega⟩
    have HBW := Lib.hid hbw
    have HXr := Lib.hid ((hbw.block _ (blk_lt HX.out)).trans HX.out)
    clear x0 x1 x2 x3 hbw
    obtain ⟨⟨x0, x1, x2, x3⟩, _⟩ := blk4' HXr.out
    have hz0 : (0 : Int) ≤ j := by omega
    by_cases hlt : j < ks.length
    · have hz : (j : Int) < ks.length := by omega
      by_cases hpos : 0 < m
      · obtain ⟨ad, rfl⟩ := row_some HA.out (by omega)
        have hS : Same [] w wr := Same.of_below (HAL.out.trans (HBW.out.mono HAL.out.size))
        obtain ⟨A', c', p0, p1, p2, p3, plc, prow, _⟩ := ex_some (HA.out.keep hS) j hlt
        have HCALL := Lib.hid (HI.out j hlt A' c' m wr (by omega) hm2 prow plc)
        obtain ⟨k0, hk0⟩ : ∃ e, ks[j] = e := ⟨_, rfl⟩
        rw [hk0] at HCALL p0 p1 p2 p3
        have hzc : (j : Int) < c := by omega
        clear prow plc hk0 hS
        go_wp2_with fail
        refine HCALL.out.mono ?_
        rintro r w5 ⟨z, rfl, hz1, hz2, hb5⟩
        have HB5 := Lib.hid hb5
        clear hb5
        go_wp2_with fail
        go_roundg gk
        case measure => omega
        case rel => exact ⟨j + 1, z, by go_num, rfl, by omega, by omega, by omega, by omega, HBW.out.trans (HB5.out.mono HBW.out.size)⟩
      · have hpos' : m ≤ 0 := by omega
        by_cases hneg : m < 0
        · go_wp2_with fail
          go_ret
          exact ⟨0, rfl, by decide, by decide, HAL.out.trans (HBW.out.mono HAL.out.size)⟩
        · have hneg' : 0 ≤ m := by omega
          go_wp2_with fail
          go_ret
          exact ⟨m, rfl, by omega, by omega, HAL.out.trans (HBW.out.mono HAL.out.size)⟩
    · have hz : (ks.length : Int) ≤ j := by omega
      by_cases hneg : m < 0
      · go_wp2_with fail
        go_ret
        exact ⟨0, rfl, by decide, by decide, HAL.out.trans (HBW.out.mono HAL.out.size)⟩
      · have hneg' : 0 ≤ m := by omega
        go_wp2_with fail
        go_ret
        exact ⟨m, rfl, by omega, by omega, HAL.out.trans (HBW.out.mono HAL.out.size)⟩
theorem weight_any (N : Nat) : ∀ (e : Ex) (A : Option Addr) (c : Nat) (most : Int) (w : World), SizeOf.sizeOf e < N → 0 ≤ most → most ≤ 400 → ExOk e → exK.Row [] w A e.kids → e.kids.length ≤ c →
    Calls Tryz.prog 40 #[exV e A c, .int .i64 most] w (WtPost w) := by
  induction N with
  | zero => intro e A c most w h; omega
  | succ N ih =>
    intro e A c most w hN hm0 hm hk ha hc
    obtain ⟨o, n, nm, ks⟩ := e
    refine weight_step o n nm ks A c most w hm0 hm hk.name ha hc (fun i hi A' c' m W h0 h4 h1 h2 => ih _ A' c' m W ?_ h0 h4 (hk.kids _ (List.getElem_mem hi)) h1 h2)
    have h1 : SizeOf.sizeOf ks[i] < SizeOf.sizeOf ks := List.sizeOf_lt_of_mem (List.getElem_mem hi)
    simp at hN
    omega
end Go.Proofs.YtgcfjkfipkfijaaGreatDoor
