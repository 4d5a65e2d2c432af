/- The library's tables that the walks lean on: as start-up lays them, and as no walk turns them. -/
import Derived.Test.YtgcfjkfipkfijaaGreatDoorProg
import Derived.Test.YtgcfjkfipkfijaaGreatDoorData
import Derived.Test.YtgcfjkfipkfijaaGreatDoorShelf
import Derived.KernelRfl
namespace Go.Proofs.YtgcfjkfipkfijaaGreatDoor
open Go Go.RowKit
def gTop : Nat := 5 + 1
theorem gTop_eq : gTop = 5 + 1 := rfl
structure Tabs (w : World) : Prop where
  utf : Lib.Utf8Tabs 0 1 w
  len : ∃ m, w.cell? ⟨2, 0, none⟩ = some (.int .i64 m)
  pow : Lib.TabIs Tryz.prog w "internal/strconv.uint64pow10" .u64 Lib.pow10Tab
  size : gTop ≤ w.heap.size
theorem pow_global : Tryz.prog.globalNamed "internal/strconv.uint64pow10" = some 3 := by kernel_rfl
theorem Tabs.keep {M : List Nat} {w w' : World} (h : Tabs w) (s : Same M w w') (hm : ∀ k, k ∈ M → gTop ≤ k) : Tabs w' := by
  have hb : ∀ k, k < gTop → w'.heap[k]? = w.heap[k]? := fun k hk => s.block k (Nat.lt_of_lt_of_le hk h.size) (fun hc => by have := hm k hc; omega)
  have hc : ∀ (p : Addr) (v : Value), p.block < gTop → w.cell? p = some v → w'.cell? p = some v := fun p v hp hv => (World.cell?_of_block (w := w) (hb p.block hp)).trans hv
  refine ⟨⟨fun c hc' => hc _ _ (by simp [gTop]) (h.utf.1 c hc'), fun i hi => ⟨hc _ _ (by simp [gTop]) (h.utf.2 i hi).1, hc _ _ (by simp [gTop]) (h.utf.2 i hi).2⟩⟩, ?_, ?_, Nat.le_trans h.size s.size⟩
  · obtain ⟨m, hm'⟩ := h.len
    exact ⟨m, hc _ _ (by simp [gTop]) hm'⟩
  · have := h.pow
    unfold Lib.TabIs World.var? at this ⊢
    rw [pow_global] at this ⊢
    simp only [Option.bind_some] at this ⊢
    rw [hb _ (by simp [gTop])]
    exact this
theorem Tabs.below {w w' : World} (h : Tabs w) (b : Below w.heap.size w w') : Tabs w' := h.keep (M := []) (Same.of_below b) (fun _ hk => by simp at hk)
theorem Tabs.alloc {w : World} (h : Tabs w) (o : Obj) : Tabs (w.alloc o) := h.keep (M := []) ((Same.refl [] w).alloc o) (fun _ hk => by simp at hk)
theorem Tabs.setCell {w : World} (h : Tabs w) {p : Addr} (hp : gTop ≤ p.block) (v : Value) : Tabs (w.setCell p v) :=
  h.keep (M := [p.block]) ((Same.refl [p.block] w).setCell (.inl (by simp)) v) (fun k hk => by simp at hk; omega)
theorem Tabs.drewN {w : World} (h : Tabs w) (n : Nat) : Tabs (w.drewN n) := h.keep (M := []) ((Same.refl [] w).drewN n) (fun _ hk => by simp at hk)
end Go.Proofs.YtgcfjkfipkfijaaGreatDoor
