/- A walk: reckon, Eval. -/
import Derived.Test.YtgcfjkfipkfijaaGreatDoorPure3
namespace Go.Proofs.YtgcfjkfipkfijaaGreatDoor
open Go Go.RowKit Go.Lib

theorem ex_zero {M : List Nat} {w : World} {ad : Addr} {a : Ex} {r : List Ex} (h : exK.Row M w (some ad) (a :: r)) :
    ∃ A' c', w.cell? ad = some (.int .i64 a.op) ∧ w.cell? ⟨ad.block, ad.off + 1, none⟩ = some (.int .i64 a.n) ∧ w.cell? ⟨ad.block, ad.off + 2, none⟩ = some (.string a.name) ∧ w.cell? ⟨ad.block, ad.off + 3, none⟩ = some (.slice A' a.kids.length c') ∧
      a.kids.length ≤ c' ∧ exK.Row M w A' a.kids := by
  obtain ⟨A', c', h0, h1, h2, h3, h4, h5, _⟩ := ex_some h 0 (by simp)
  exact ⟨A', c', h0, h1, h2, h3, h4, h5⟩
theorem ex_one {M : List Nat} {w : World} {ad : Addr} {a b : Ex} {r : List Ex} (h : exK.Row M w (some ad) (a :: b :: r)) :
    ∃ A' c', w.cell? ⟨ad.block, ad.off + 4, none⟩ = some (.int .i64 b.op) ∧ w.cell? ⟨ad.block, ad.off + 4 + 1, none⟩ = some (.int .i64 b.n) ∧ w.cell? ⟨ad.block, ad.off + 4 + 2, none⟩ = some (.string b.name) ∧ w.cell? ⟨ad.block, ad.off + 4 + 3, none⟩ = some (.slice A' b.kids.length c') ∧
      b.kids.length ≤ c' ∧ exK.Row M w A' b.kids := by
  obtain ⟨A', c', h0, h1, h2, h3, h4, h5, _⟩ := ex_some h 1 (by simp)
  exact ⟨A', c', h0, h1, h2, h3, h4, h5⟩
theorem row_some {α : Type} {d : Kind α} {M : List Nat} {w : World} {A : Option Addr} {xs : List α} (h : d.Row M w A xs) (hp : 0 < xs.length) : ∃ ad, A = some ad := by
  obtain ⟨ad, e, _⟩ := h.2 hp
  exact ⟨ad, e⟩
/-- What reckon hands back. -/
def ReckPost (p : Int × Int) (w : World) (r : Ending) (w' : World) : Prop := r = .returned (.tuple #[.int .i64 p.1, .int .i64 p.2]) ∧ Below w.heap.size w w'
end Go.Proofs.YtgcfjkfipkfijaaGreatDoor
