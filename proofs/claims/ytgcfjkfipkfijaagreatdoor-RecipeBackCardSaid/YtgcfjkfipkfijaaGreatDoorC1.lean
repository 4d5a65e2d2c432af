/- Walks: the cutter's methods. -/
import Derived.Test.YtgcfjkfipkfijaaGreatDoorL5
import Derived.Deep.RegionHeld3
import Derived.Deep.RegionLaw
namespace Go.Proofs.YtgcfjkfipkfijaaGreatDoor
open Go Go.RowKit Go.Lib

theorem blk_cell {w : World} {g : Nat} {cs : Array Value} {t : TypeId} {fr : Nat × Nat} (h : w.heap[g]? = some (.cells cs t fr)) (i : Nat) : w.cell? ⟨g, i, none⟩ = cs[i]? := by simp [World.cell?, h]
theorem blk_frozen {w : World} {g : Nat} {cs : Array Value} {t : TypeId} (h : w.heap[g]? = some (.cells cs t (0, 0))) (i : Nat) : w.frozen? ⟨g, i, none⟩ = false := by simp [World.frozen?, h]
theorem blk_set {w : World} {g : Nat} {cs : Array Value} {t : TypeId} {fr : Nat × Nat} (h : w.heap[g]? = some (.cells cs t fr)) (i : Nat) (v : Value) : (w.setCell ⟨g, i, none⟩ v).heap[g]? = some (.cells (cs.setIfInBounds i v) t fr) := by simp [World.setCell, Array.getElem?_modify, h]
theorem blk_lt {w : World} {g : Nat} {o : Obj} (h : w.heap[g]? = some o) : g < w.heap.size := (Array.getElem?_eq_some_iff.1 h).1
theorem cell_iter {w : World} {a : Addr} {v : Value} (s : ByteArray) (pos : Nat) (h : w.cell? a = some v) : (w.iter s pos).cell? a = some v := ((below_iter w s pos).cell (World.block_lt_of_cell? w a h)).trans h
theorem frozen_iter {w : World} {a : Addr} {v : Value} (s : ByteArray) (pos : Nat) (hc : w.cell? a = some v) (h : w.frozen? a = false) : (w.iter s pos).frozen? a = false := ((below_iter w s pos).frozen (World.block_lt_of_cell? w a hc)).trans h
theorem frozen_drew {w : World} {a : Addr} {b : Bool} (h : w.frozen? a = b) : w.drew.frozen? a = b := h
theorem cell_drew {w : World} {a : Addr} {v : Value} (h : w.cell? a = some v) : w.drew.cell? a = some v := h
/-- A cutter: what is left, how many runes stand ahead, the tokens' slice. -/
def CutB (w : World) (g : Nat) (rest : ByteArray) (at_ : Int) (v : Value) : Prop := w.heap[g]? = some (.cells #[.string rest, .int .i64 at_, v] 84 (0, 0))
set_option maxHeartbeats 1000000 in
theorem pass_nat (g : Nat) (rest : ByteArray) (at_ : Int) (v : Value) (n : Nat) (w : World) (hb : CutB w g rest at_ v) (hn : n ≤ rest.size) (hs : rest.size ≤ 1000000) (ha0 : 0 ≤ at_) (ha : at_ ≤ 1000000) :
    Calls Tryz.prog 50 #[.pointer (some ⟨g, 0, none⟩), .int .i64 n] w fun e w' =>
      e = .returned (.tuple #[]) ∧ CutB w' g (rest.extract n rest.size) (at_ + (runes (rest.data.toList.take n)).length) v ∧ Same [g] w w' := by
  have hc0 : w.cell? ⟨g, 0, none⟩ = some (.string rest) := (blk_cell hb 0).trans rfl
  have hc1 : w.cell? ⟨g, 1, none⟩ = some (.int .i64 at_) := (blk_cell hb 1).trans rfl
  have hf0 := blk_frozen hb 0
  have hf1 := blk_frozen hb 1
  have HB := Lib.hid hb
  clear hb
  have hnz : (n : Int) ≤ rest.size := by omega
  have hz : (runeCount (rest.extract 0 n) : Int) ≤ 1000000 := by have := runeCount_le (rest.extract 0 n); simp at this; omega
  obtain ⟨RC, hRC⟩ : ∃ RC, runeCount (rest.extract 0 n) = RC := ⟨_, rfl⟩
  rw [hRC] at hz
  have hRC' : (runes (rest.data.toList.take n)).length = RC := by rw [← hRC, runeCount_runes]; congr 2; simp
  have HC : Hid (∀ W, Calls Tryz.prog 77 #[.string (rest.extract 0 n)] W fun e w' => e = .returned (.int .i64 RC) ∧ ∃ pos, w' = W.iter (rest.extract 0 n) pos) := fun W => by
    rw [← hRC]; exact Tryz.utf8_RuneCountInString _ W (by simp; omega)
  rw [hRC']
  clear hRC hRC'
  go_enter Tryz.func50, Tryz.ntmps50
  go_wp2_with fail
  have hsum : IntKind.i64.wrap (at_ + ↑RC) = at_ + ↑RC := IntWalk.i64_in _ (by omega)
  go_region_with (first | (go_at_call 77; refine (HC.out _).mono ?_; rintro e w' ⟨rfl, pos, rfl⟩; have q0 := cell_iter (rest.extract 0 n) pos (cell_drew hc0); have q1 := cell_iter (rest.extract 0 n) pos (cell_drew hc1); have qf0 := frozen_iter (rest.extract 0 n) pos (cell_drew hc0) (frozen_drew hf0); have qf1 := frozen_iter (rest.extract 0 n) pos (cell_drew hc1) (frozen_drew hf1)))
  all_goals
    go_wp2
    go_end0
    refine ⟨rfl, ?_, ?_⟩
    · have h1 := blk_set (v := Value.int .i64 (at_ + ↑RC)) (show (w.drew.iter (rest.extract 0 n) pos).heap[g]? = _ from ((below_iter w.drew _ pos).block g (blk_lt HB.out)).trans HB.out) 1
      exact blk_set h1 0 _
    · refine Same.setCell (Same.setCell ?_ (.inl (by simp)) _) (.inl (by simp)) _
      exact Same.alloc (Same.drew (Same.refl _ _)) _
theorem pass_any (g : Nat) (rest : ByteArray) (at_ : Int) (v : Value) (n : Int) (w : World) (hb : CutB w g rest at_ v) (hn0 : 0 ≤ n) (hn : n ≤ rest.size) (hs : rest.size ≤ 1000000) (ha0 : 0 ≤ at_) (ha : at_ ≤ 1000000) :
    Calls Tryz.prog 50 #[.pointer (some ⟨g, 0, none⟩), .int .i64 n] w fun e w' =>
      e = .returned (.tuple #[]) ∧ CutB w' g (rest.extract n.toNat rest.size) (at_ + (runes (rest.data.toList.take n.toNat)).length) v ∧ Same [g] w w' := by
  obtain ⟨k, rfl⟩ := Int.eq_ofNat_of_zero_le hn0
  rw [Int.toNat_natCast]
  exact pass_nat g rest at_ v k w hb (by omega) hs ha0 ha
end Go.Proofs.YtgcfjkfipkfijaaGreatDoor
