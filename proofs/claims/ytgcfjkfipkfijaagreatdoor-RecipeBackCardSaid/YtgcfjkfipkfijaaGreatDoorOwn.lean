/- Rows of a call's own, read as lists. No program in sight. -/
import Derived.Test.YtgcfjkfipkfijaaGreatDoorData
import Derived.Laws.AppendOwn
import Derived.Laws.OwnMore
import Derived.Deep.AppendLies
namespace Go.Proofs.YtgcfjkfipkfijaaGreatDoor
open Go Go.RowKit

theorem below_drewN {B : Nat} {w W : World} (h : Below B w W) (n : Nat) : Below B w (W.drewN n) := ⟨h.os, h.tape, h.output, h.size, h.block⟩
theorem below_set4' {B k : Nat} {w W : World} (h : Below B w W) (hk : B ≤ k) (a b c d : Value) : Below B w ((((W.setCell ⟨k, 0, none⟩ a).setCell ⟨k, 1, none⟩ b).setCell ⟨k, 2, none⟩ c).setCell ⟨k, 3, none⟩ d) :=
  (((h.setCell hk a).setCell hk b).setCell hk c).setCell hk d
theorem row_some0 {α : Type} {d : Kind α} {M : List Nat} {w : World} {A : Option Addr} {xs : List α} (h : d.Row M w A xs) (hp : 0 < xs.length) : ∃ ad, A = some ad := by
  obtain ⟨ad, e, _⟩ := h.2 hp
  exact ⟨ad, e⟩
theorem getElem?_flatMap_const {α β : Type} {f : α → List β} {n : Nat} (hf : ∀ x, (f x).length = n) : ∀ (l : List α) (i j : Nat) (h : i < l.length), j < n → (l.flatMap f)[i * n + j]? = (f l[i])[j]?
  | x :: l, 0, j, _, hj => by
    rw [List.flatMap_cons, Nat.zero_mul, Nat.zero_add, List.getElem?_append_left (by rw [hf]; exact hj)]
    rfl
  | x :: l, i + 1, j, h, hj => by
    rw [List.flatMap_cons, List.getElem?_append_right (by rw [hf, Nat.succ_mul]; omega), hf]
    have : (i + 1) * n + j - n = i * n + j := by rw [Nat.succ_mul]; omega
    rw [this, getElem?_flatMap_const hf l i j (by simpa using h) hj]
    rfl
theorem length_flatMap_const {α β : Type} {f : α → List β} {n : Nat} (hf : ∀ x, (f x).length = n) : ∀ l : List α, (l.flatMap f).length = l.length * n
  | [] => by simp
  | x :: l => by rw [List.flatMap_cons, List.length_append, hf, length_flatMap_const hf l, List.length_cons, Nat.succ_mul]; omega
/-- A row of the call's own whose cells hold what reads as the list. -/
theorem row_of_own {α : Type} {d : Kind α} {enc : α → List Value} (hl : ∀ x, (enc x).length = d.sz) {w : World} {base : Nat} {e : TypeId} {v : Value} {xs : List α}
    (h : w.ownsRow base e d.sz v xs.length (xs.flatMap enc)) {M : List Nat} (hM : ∀ k, k ∈ M → k < base) (hr : ∀ x, x ∈ xs → d.rep M w x (enc x)) :
    ∃ A c, v = .slice A xs.length c ∧ xs.length ≤ c ∧ d.Row M w A xs := by
  rcases h.2 with ⟨rfl, h0⟩ | ⟨g, cap, cur, rfl, hg, hh, h1, h2, h3, h4⟩
  · obtain rfl : xs = [] := List.eq_nil_of_length_eq_zero h0
    exact ⟨none, 0, rfl, Nat.le_refl _, Kind.Row.nil _ _ _ _⟩
  · refine ⟨_, cap, rfl, h1, by simp only [maxLen] at h2; omega, fun hn => ⟨_, rfl, fun hc => ?_, (Array.getElem?_eq_some_iff.1 hh).1, fun i hi => ⟨enc xs[i], hr _ (List.getElem_mem hi), fun j u hu => ?_⟩⟩⟩
    · have := hM _ hc
      simp at this
      omega
    · have hj : j < d.sz := by
        rw [← hl xs[i]]
        exact (List.getElem?_eq_some_iff.1 hu).1
      exact h.cells (g := g) rfl (i * d.sz + j) u (by rw [getElem?_flatMap_const hl xs i j hi hj]; exact hu)
theorem own_slice {w : World} {base n : Nat} {e : TypeId} {size : Nat} {v : Value} {xs : List Value} (h : w.ownsRow base e size v n xs) : ∃ A c, v = .slice A n c := by
  rcases h.2 with ⟨rfl, rfl⟩ | ⟨g, cap, cur, rfl, _⟩
  · exact ⟨none, 0, rfl⟩
  · exact ⟨_, cap, rfl⟩
theorem own_block {w : World} {base n : Nat} {e : TypeId} {size : Nat} {v : Value} {xs : List Value} (h : w.ownsRow base e size v n xs) (k : Nat) (hk : v.ownBlock = some k) : base ≤ k ∧ k < w.heap.size := by
  rcases h.2 with ⟨rfl, _⟩ | ⟨g, cap, cur, rfl, hb, hh, _⟩
  · simp [Value.ownBlock] at hk
  · have : g = k := by simpa [Value.ownBlock] using hk
    subst this
    exact ⟨hb, (Array.getElem?_eq_some_iff.1 hh).1⟩
theorem own_below {w w1 : World} {base : Nat} {e : TypeId} {size : Nat} {v : Value} {n : Nat} {xs : List Value} (h : w.ownsRow base e size v n xs) (hb : Below w.heap.size w w1) : w1.ownsRow base e size v n xs :=
  h.kept (row := none) ⟨hb.os, hb.tape, hb.output, hb.size, fun i hi _ => hb.block i hi⟩ (by cases v.ownBlock <;> simp)
theorem own_same {w w1 : World} {base : Nat} {M : List Nat} {e : TypeId} {size : Nat} {v : Value} {n : Nat} {xs : List Value} (h : w.ownsRow base e size v n xs) (hs : Same M w w1) (hM : ∀ k, k ∈ M → k < base) : w1.ownsRow base e size v n xs := by
  refine ⟨h.1, ?_⟩
  rcases h.2 with h' | ⟨g, cap, cur, hv, hg, hh, r⟩
  · exact .inl h'
  · exact .inr ⟨g, cap, cur, hv, hg, hs.heap (fun hc => by have := hM _ hc; omega) hh, r⟩
theorem own_set {w : World} {base : Nat} {e : TypeId} {size : Nat} {v : Value} {n : Nat} {xs : List Value} (h : w.ownsRow base e size v n xs) {p : Addr} (hp : v.ownBlock ≠ some p.block) (u : Value) : (w.setCell p u).ownsRow base e size v n xs := by
  refine ⟨h.1, ?_⟩
  rcases h.2 with h' | ⟨g, cap, cur, hv, hg, hh, r⟩
  · exact .inl h'
  · exact .inr ⟨g, cap, cur, hv, hg, by rw [Below.heap_setCell _ _ _ _ (fun e => hp (by rw [hv, e]; rfl))]; exact hh, r⟩
def tokE (t : Tok) : List Value := [.int .i64 t.kind, .string t.text, .int .i64 t.n, .int .i64 t.at_]
theorem tokE_rep (M : List Nat) (w : World) (t : Tok) : tokK.rep M w t (tokE t) := ⟨[_], _, rfl, rfl, [_], _, rfl, rfl, [_], _, rfl, rfl, rfl⟩
theorem tokE_len (t : Tok) : (tokE t).length = tokK.sz := rfl
end Go.Proofs.YtgcfjkfipkfijaaGreatDoor
