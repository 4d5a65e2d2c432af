/- The data of layers 1 and 2 (tokens, cells, expressions), and how they lie in memory. -/
import Derived.Test.YtgaiheojlmebaaaDoorKind
namespace Go.Proofs.YtgaiheojlmebaaaDoor
open Go Go.RowKit

structure Tok where
  kind : Int
  text : ByteArray
  n : Int
  at_ : Int
structure Cel where
  name : ByteArray
  n : Int
inductive Ex where
  | mk (op : Int) (n : Int) (name : ByteArray) (kids : List Ex)
namespace Ex
def op : Ex → Int | .mk o _ _ _ => o
def n : Ex → Int | .mk _ n _ _ => n
def name : Ex → ByteArray | .mk _ _ s _ => s
def kids : Ex → List Ex | .mk _ _ _ k => k
theorem eta (e : Ex) : e = .mk e.op e.n e.name e.kids := by cases e; rfl
end Ex

def tokK : Kind Tok := Kind.iso (.pair (.int .i64) (.pair .str (.pair (.int .i64) (.int .i64)))) (fun t => (t.kind, t.text, t.n, t.at_))
def celK : Kind Cel := Kind.iso (.pair .str (.int .i64)) (fun c => (c.name, c.n))
def exU : Nat → Kind Ex
  | 0 => ⟨4, fun _ _ _ _ => False, fun h => h.elim, fun h _ => h.elim, fun h _ => h.elim⟩
  | d + 1 => Kind.iso (.pair (.int .i64) (.pair (.int .i64) (.pair .str (.slice (exU d))))) (fun e => (e.op, e.n, e.name, e.kids))
theorem exU_sz : ∀ d, (exU d).sz = 4
  | 0 => rfl
  | _ + 1 => rfl
theorem exU_succ {d : Nat} {M : List Nat} {w : World} {e : Ex} {cs : List Value} : (exU (d + 1)).rep M w e cs ↔
    ∃ A c, cs = [.int .i64 e.op, .int .i64 e.n, .string e.name, .slice A e.kids.length c] ∧ e.kids.length ≤ c ∧ (exU d).Row M w A e.kids := by
  constructor
  · rintro ⟨_, _, rfl, rfl, _, _, rfl, rfl, _, _, rfl, rfl, A, c, rfl, h1, h2⟩
    exact ⟨A, c, rfl, h1, h2⟩
  · rintro ⟨A, c, rfl, h1, h2⟩
    exact ⟨[.int .i64 e.op], [.int .i64 e.n, .string e.name, .slice A e.kids.length c], rfl, rfl, [.int .i64 e.n], [.string e.name, .slice A e.kids.length c], rfl, rfl, [.string e.name], [.slice A e.kids.length c], rfl, rfl, A, c, rfl, h1, h2⟩
theorem exU_mono : ∀ {d : Nat} {M : List Nat} {w : World} {e : Ex} {cs : List Value}, (exU d).rep M w e cs → (exU (d + 1)).rep M w e cs
  | 0, _, _, _, _, h => h.elim
  | d + 1, M, w, e, cs, h => by
    obtain ⟨A, c, rfl, h1, h2⟩ := exU_succ.1 h
    exact exU_succ.2 ⟨A, c, rfl, h1, h2.imp (by rw [exU_sz, exU_sz]) (fun x cs _ hx => exU_mono hx)⟩
theorem exU_le {d d' : Nat} (hd : d ≤ d') {M : List Nat} {w : World} {e : Ex} {cs : List Value} (h : (exU d).rep M w e cs) : (exU d').rep M w e cs := by
  induction hd with
  | refl => exact h
  | step _ ih => exact exU_mono ih
def exK : Kind Ex := ⟨4, fun M w e cs => ∃ d, (exU d).rep M w e cs, fun h => by obtain ⟨d, h⟩ := h; rw [(exU d).len h, exU_sz], fun h s => h.imp fun d h => (exU d).keep h s, fun h s => h.imp fun d h => (exU d).less h s⟩

theorem exK_open {M : List Nat} {w : World} {e : Ex} {cs : List Value} (h : exK.rep M w e cs) :
    ∃ A c, cs = [.int .i64 e.op, .int .i64 e.n, .string e.name, .slice A e.kids.length c] ∧ e.kids.length ≤ c ∧ exK.Row M w A e.kids := by
  obtain ⟨d, h⟩ := h
  cases d with
  | zero => exact h.elim
  | succ d =>
    obtain ⟨A, c, rfl, h1, h2⟩ := exU_succ.1 h
    exact ⟨A, c, rfl, h1, h2.imp (by rw [exU_sz]; rfl) (fun x cs _ hx => ⟨d, hx⟩)⟩
theorem exU_row {M : List Nat} {w : World} {A : Option Addr} {ks : List Ex} (h : exK.Row M w A ks) : ∃ d, (exU d).Row M w A ks := by
  by_cases hn : 0 < ks.length
  · obtain ⟨ad, e, hb, hl, hc⟩ := h.2 hn
    have key : ∀ m, m ≤ ks.length → ∃ d, ∀ i (hi : i < ks.length), i < m → ∃ cs, (exU d).rep M w ks[i] cs ∧ ∀ j u, cs[j]? = some u → w.cell? (ad.add (i * 4 + j)) = some u := by
      intro m
      induction m with
      | zero => intro _; exact ⟨0, fun i _ h => absurd h (by omega)⟩
      | succ m ih =>
        intro hm
        obtain ⟨d, hd⟩ := ih (by omega)
        obtain ⟨cs, ⟨d', h'⟩, hcs⟩ := hc m (by omega)
        refine ⟨d + d', fun i hi him => ?_⟩
        by_cases e : i = m
        · subst e; exact ⟨cs, exU_le (by omega) h', hcs⟩
        · obtain ⟨cs, h1, h2⟩ := hd i hi (by omega)
          exact ⟨cs, exU_le (by omega) h1, h2⟩
    obtain ⟨d, hd⟩ := key ks.length (Nat.le_refl _)
    refine ⟨d, h.1, fun _ => ⟨ad, e, hb, hl, fun i hi => ?_⟩⟩
    rw [exU_sz]
    exact hd i hi hi
  · exact ⟨0, h.1, fun h => absurd h hn⟩
theorem exK_mk {M : List Nat} {w : World} {e : Ex} {A : Option Addr} {c : Nat} (h1 : e.kids.length ≤ c) (h2 : exK.Row M w A e.kids) :
    exK.rep M w e [.int .i64 e.op, .int .i64 e.n, .string e.name, .slice A e.kids.length c] := by
  obtain ⟨d, h⟩ := exU_row h2
  exact ⟨d + 1, exU_succ.2 ⟨A, c, rfl, h1, h⟩⟩

/-- What the walk asks of an element that it reads. -/
theorem ex_at {M : List Nat} {w : World} {A : Option Addr} {ks : List Ex} (h : exK.Row M w A ks) (k : Nat) (hk : k < ks.length) :
    ∃ ad A' c', A = some ad ∧ w.cell? (ad.add (k * 4)) = some (.int .i64 ks[k].op) ∧ w.cell? ⟨(ad.add (k * 4)).block, (ad.add (k * 4)).off + 1, none⟩ = some (.int .i64 ks[k].n) ∧
      w.cell? ⟨(ad.add (k * 4)).block, (ad.add (k * 4)).off + 2, none⟩ = some (.string ks[k].name) ∧ w.cell? ⟨(ad.add (k * 4)).block, (ad.add (k * 4)).off + 3, none⟩ = some (.slice A' ks[k].kids.length c') ∧
      ks[k].kids.length ≤ c' ∧ exK.Row M w A' ks[k].kids ∧ ad.block ∉ M := by
  obtain ⟨ad, cs, e, hb, hr, hc⟩ := h.at_ k hk
  obtain ⟨A', c', rfl, h1, h2⟩ := exK_open hr
  have hc0 : ∀ j u, _ → w.cell? (ad.add (k * 4 + j)) = some u := hc
  exact ⟨ad, A', c', e, hc0 0 _ rfl, by rw [← Kind.add_field _ _ 1 (by omega)]; exact hc0 1 _ rfl, by rw [← Kind.add_field _ _ 2 (by omega)]; exact hc0 2 _ rfl, by rw [← Kind.add_field _ _ 3 (by omega)]; exact hc0 3 _ rfl, h1, h2, hb⟩
theorem ex_some {M : List Nat} {w : World} {ad : Addr} {ks : List Ex} (h : exK.Row M w (some ad) ks) (k : Nat) (hk : k < ks.length) :
    ∃ A' c', w.cell? (ad.add (k * 4)) = some (.int .i64 ks[k].op) ∧ w.cell? ⟨(ad.add (k * 4)).block, (ad.add (k * 4)).off + 1, none⟩ = some (.int .i64 ks[k].n) ∧
      w.cell? ⟨(ad.add (k * 4)).block, (ad.add (k * 4)).off + 2, none⟩ = some (.string ks[k].name) ∧ w.cell? ⟨(ad.add (k * 4)).block, (ad.add (k * 4)).off + 3, none⟩ = some (.slice A' ks[k].kids.length c') ∧
      ks[k].kids.length ≤ c' ∧ exK.Row M w A' ks[k].kids ∧ ad.block ∉ M := by
  obtain ⟨ad', A', c', e, h⟩ := ex_at h k hk
  injection e with e
  subst e
  exact ⟨A', c', h⟩
theorem tok_at {M : List Nat} {w : World} {A : Option Addr} {ks : List Tok} (h : tokK.Row M w A ks) (k : Nat) (hk : k < ks.length) :
    ∃ ad, A = some ad ∧ w.cell? (ad.add (k * 4)) = some (.int .i64 ks[k].kind) ∧ w.cell? ⟨(ad.add (k * 4)).block, (ad.add (k * 4)).off + 1, none⟩ = some (.string ks[k].text) ∧
      w.cell? ⟨(ad.add (k * 4)).block, (ad.add (k * 4)).off + 2, none⟩ = some (.int .i64 ks[k].n) ∧ w.cell? ⟨(ad.add (k * 4)).block, (ad.add (k * 4)).off + 3, none⟩ = some (.int .i64 ks[k].at_) ∧ ad.block ∉ M := by
  obtain ⟨ad, cs, e, hb, ⟨_, _, rfl, rfl, _, _, rfl, rfl, _, _, rfl, rfl, rfl⟩, hc⟩ := h.at_ k hk
  have hc0 : ∀ j u, _ → w.cell? (ad.add (k * 4 + j)) = some u := hc
  exact ⟨ad, e, hc0 0 _ rfl, by rw [← Kind.add_field _ _ 1 (by omega)]; exact hc0 1 _ rfl, by rw [← Kind.add_field _ _ 2 (by omega)]; exact hc0 2 _ rfl, by rw [← Kind.add_field _ _ 3 (by omega)]; exact hc0 3 _ rfl, hb⟩
theorem cel_at {M : List Nat} {w : World} {A : Option Addr} {ks : List Cel} (h : celK.Row M w A ks) (k : Nat) (hk : k < ks.length) :
    ∃ ad, A = some ad ∧ w.cell? (ad.add (k * 2)) = some (.string ks[k].name) ∧ w.cell? ⟨(ad.add (k * 2)).block, (ad.add (k * 2)).off + 1, none⟩ = some (.int .i64 ks[k].n) ∧ ad.block ∉ M := by
  obtain ⟨ad, cs, e, hb, ⟨_, _, rfl, rfl, rfl⟩, hc⟩ := h.at_ k hk
  have hc0 : ∀ j u, _ → w.cell? (ad.add (k * 2 + j)) = some u := hc
  exact ⟨ad, e, hc0 0 _ rfl, by rw [← Kind.add_field _ _ 1 (by omega)]; exact hc0 1 _ rfl, hb⟩
end Go.Proofs.YtgaiheojlmebaaaDoor
