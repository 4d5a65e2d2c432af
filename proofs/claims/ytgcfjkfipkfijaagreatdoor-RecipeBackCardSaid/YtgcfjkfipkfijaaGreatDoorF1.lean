/- Walks: a tree is the same as itself; a tree's weight. -/
import Derived.Test.YtgcfjkfipkfijaaGreatDoorE6
import Derived.Deep.DeepCutAuto
import Derived.Deep.CutBlock
import Derived.ChangeAlike
import Derived.RegionTactic
namespace Go.Proofs.YtgcfjkfipkfijaaGreatDoor
open Go Go.RowKit Go.Lib

theorem blk4' {w : World} {k : Nat} {v0 v1 v2 v3 : Value} {t : TypeId} (h : w.heap[k]? = some (.cells #[v0, v1, v2, v3] t (0, 0))) :
    (w.cell? ⟨k, 0, none⟩ = some v0 ∧ w.cell? ⟨k, 1, none⟩ = some v1 ∧ w.cell? ⟨k, 2, none⟩ = some v2 ∧ w.cell? ⟨k, 3, none⟩ = some v3) ∧ True :=
  ⟨⟨blk_cell h 0, blk_cell h 1, blk_cell h 2, blk_cell h 3⟩, trivial⟩
/-- What Same hands back of two trees that are the same. -/
def SamePost (w : World) (r : Ending) (w' : World) : Prop := r = .returned (.bool true) ∧ Below w.heap.size w w'
def SameAt (W : World) (e : Ex) : Prop := ∀ (A : Option Addr) (c : Nat) (B : Option Addr) (d : Nat) (w : World), Below W.heap.size W w → exK.Row [] w A e.kids → e.kids.length ≤ c → exK.Row [] w B e.kids → e.kids.length ≤ d →
  Calls Tryz.prog 64 #[exV e A c, exV e B d] w (SamePost w)
set_option maxHeartbeats 8000000 in
set_option maxRecDepth 100000 in
theorem same_step (o n : Int) (nm : ByteArray) (ks : List Ex) (A : Option Addr) (c : Nat) (B : Option Addr) (d : Nat) (w : World) (ha : exK.Row [] w A ks) (hc : ks.length ≤ c) (hb : exK.Row [] w B ks) (hd : ks.length ≤ d)
    (ih : ∀ i (hi : i < ks.length), SameAt w ks[i]) :
    Calls Tryz.prog 64 #[.agg #[.int .i64 o, .int .i64 n, .string nm, .slice A ks.length c], .agg #[.int .i64 o, .int .i64 n, .string nm, .slice B ks.length d]] w (SamePost w) := by
  have HA := Lib.hid ha
  have HB := Lib.hid hb
  have HI := Lib.hid ih
  have hmax := ha.1
  obtain ⟨w0, hw0⟩ : ∃ w0, (w.alloc (.cells #[.int .i64 o, .int .i64 n, .string nm, .slice A ks.length c] 41)).alloc (.cells #[.int .i64 o, .int .i64 n, .string nm, .slice B ks.length d] 41) = w0 := ⟨_, rfl⟩
  have hal : Below w.heap.size w w0 := hw0 ▸ ((Below.refl _ _).alloc (Nat.le_refl _) _).alloc (by simp) _
  have hx : w0.heap[w.heap.size]? = some (.cells #[.int .i64 o, .int .i64 n, .string nm, .slice A ks.length c] 41 (0, 0)) := hw0 ▸ (Below.heap_alloc _ _ _ (by simp)).trans (heap_alloc_new _ _)
  have hy : w0.heap[w.heap.size + 1]? = some (.cells #[.int .i64 o, .int .i64 n, .string nm, .slice B ks.length d] 41 (0, 0)) := by
    have h := heap_alloc_new (w.alloc (.cells #[.int .i64 o, .int .i64 n, .string nm, .slice A ks.length c] 41)) (.cells #[.int .i64 o, .int .i64 n, .string nm, .slice B ks.length d] 41)
    rw [hw0] at h
    simpa using h
  have HW0 := Lib.hid hw0
  have HX := Lib.hid hx
  have HY := Lib.hid hy
  have HAL := Lib.hid hal
  obtain ⟨⟨x0, x1, x2, x3⟩, _⟩ := blk4' hx
  obtain ⟨⟨y0, y1, y2, y3⟩, _⟩ := blk4' hy
  clear ha hb ih hx hy hw0 hal
  go_enter Tryz.func64, Tryz.ntmps64
  go_wp2_with fail
  rw [HW0.out]
  go_loopg [5] (ks.length + 1) (fun k s5 w' => ∃ j : Nat, s5 = .int .i64 j ∧ j ≤ ks.length ∧ ks.length - j < k ∧ Below w0.heap.size w0 w')
  case atStart => exact ⟨0, rfl, by omega, by omega, Below.refl _ _⟩
  case round =>
    obtain ⟨j, rfl, hj, hjk, hbw⟩ := hrel
    obtain ⟨gk, rfl⟩ : ∃ k, gk = k + 1 := ⟨gk - 1, by omega⟩
    have HBW := Lib.hid hbw
    have HXr := Lib.hid ((hbw.block _ (blk_lt HX.out)).trans HX.out)
    have HYr := Lib.hid ((hbw.block _ (blk_lt HY.out)).trans HY.out)
    clear x0 x1 x2 x3 y0 y1 y2 y3 hbw
    obtain ⟨⟨x0, x1, x2, x3⟩, _⟩ := blk4' HXr.out
    obtain ⟨⟨y0, y1, y2, y3⟩, _⟩ := blk4' HYr.out
    by_cases hlt : j < ks.length
    · obtain ⟨ad, rfl⟩ := row_some HA.out (by omega)
      obtain ⟨bd, rfl⟩ := row_some HB.out (by omega)
      have hS : Same [] w wr := Same.of_below (HAL.out.trans (HBW.out.mono HAL.out.size))
      obtain ⟨A', c', p0, p1, p2, p3, plc, prow, _⟩ := ex_some (HA.out.keep hS) j hlt
      obtain ⟨B', d', q0, q1, q2, q3, qlc, qrow, _⟩ := ex_some (HB.out.keep hS) j hlt
      have HCALL : Hid (∀ W, Below wr.heap.size wr W → Calls Tryz.prog 64 #[exV ks[j] A' c', exV ks[j] B' d'] W (SamePost W)) := Lib.hid (fun W hW =>
        HI.out j hlt A' c' B' d' W (hS.below.trans (hW.mono hS.size)) (prow.keep (Same.of_below hW)) plc (qrow.keep (Same.of_below hW)) qlc)
      obtain ⟨k0, hk0⟩ : ∃ e, ks[j] = e := ⟨_, rfl⟩
      rw [hk0] at HCALL p0 p1 p2 p3 q0 q1 q2 q3
      have hz : (j : Int) < ks.length := by omega
      have hz0 : (0 : Int) ≤ j := by omega
      have hzc : (j : Int) < c := by omega
      have hzd : (j : Int) < d := by omega
      have hzm : (ks.length : Int) ≤ 9223372036854775807 := by omega
      clear prow qrow plc qlc hk0 hS
      go_wp2_with fail
      go_cut [6] (fun s6 wx => s6 = .bool true ∧ Below wr.heap.size wr wx)
      case first =>
        go_region_with ((go_at_call 64; refine (HCALL.out _ ?_).mono ?_; (first | exact Below.refl _ _ | exact (Below.refl _ _).drew); rintro r w5 ⟨rfl, hb5⟩; have HB5 := Lib.hid hb5; clear hb5))
        all_goals
          go_wp2_with fail
          go_meet
          exact ⟨rfl, by first | exact HB5.out | exact (Below.refl _ _).drew.trans HB5.out⟩
      case rest =>
        obtain ⟨rfl, hbx⟩ := hcut
        have HBX := Lib.hid hbx
        clear hbx
        go_wp2_with fail
        go_roundg gk
        case measure => omega
        case rel => exact ⟨j + 1, by go_num, by omega, by omega, HBW.out.trans (HBX.out.mono HBW.out.size)⟩
    · obtain rfl : j = ks.length := by omega
      go_wp2_with fail
      go_ret
      exact ⟨rfl, HAL.out.trans (HBW.out.mono HAL.out.size)⟩
theorem same_any (N : Nat) : ∀ (e : Ex) (A : Option Addr) (c : Nat) (B : Option Addr) (d : Nat) (w : World), SizeOf.sizeOf e < N → exK.Row [] w A e.kids → e.kids.length ≤ c → exK.Row [] w B e.kids → e.kids.length ≤ d →
    Calls Tryz.prog 64 #[exV e A c, exV e B d] w (SamePost w) := by
  induction N with
  | zero => intro e A c B d w h; omega
  | succ N ih =>
    intro e A c B d w hN ha hc hb hd
    obtain ⟨o, n, nm, ks⟩ := e
    refine same_step o n nm ks A c B d w ha hc hb hd (fun i hi A' c' B' d' W _ h1 h2 h3 h4 => ih _ A' c' B' d' W ?_ h1 h2 h3 h4)
    have h1 : SizeOf.sizeOf ks[i] < SizeOf.sizeOf ks := List.sizeOf_lt_of_mem (List.getElem_mem hi)
    simp at hN
    omega
/-- Two trees in memory that are the same tree. -/
theorem same_eq (e : Ex) (A : Option Addr) (c : Nat) (B : Option Addr) (d : Nat) (w : World) (ha : exK.Row [] w A e.kids) (hc : e.kids.length ≤ c) (hb : exK.Row [] w B e.kids) (hd : e.kids.length ≤ d) :
    Calls Tryz.prog 64 #[exV e A c, exV e B d] w (SamePost w) := same_any _ e A c B d w (Nat.lt_succ_self _) ha hc hb hd
end Go.Proofs.YtgcfjkfipkfijaaGreatDoor
