/- Plain words for memory: what a walk may change ('Same'), and how data lie in memory ('Kind'). No program in sight. The data of layers 1 and 2 (tokens, cells, expressions), and how they lie in memory. -/
import Derived.Below
import Derived.Laws.OwnMore
import Derived.Deep.Draws
import Derived.WalkKit
/-! Plain words for memory: what a walk may change ('Same'), and how data lie in memory ('Kind'). No program in sight. -/
namespace Go.Proofs.YtgcfjkfipkfijaaGreatDoor
open Go Go.RowKit

/-- Of the blocks that were there, only those listed in M may have turned. -/
structure Same (M : List Nat) (w w' : World) : Prop where
  os : w'.os = w.os
  tape : w'.tape = w.tape
  output : w'.output = w.output
  size : w.heap.size ≤ w'.heap.size
  block : ∀ k, k < w.heap.size → k ∉ M → w'.heap[k]? = w.heap[k]?
namespace Same
variable {M M' : List Nat} {a b c w w' : World}
theorem refl (M : List Nat) (w : World) : Same M w w := ⟨rfl, rfl, rfl, Nat.le_refl _, fun _ _ _ => rfl⟩
theorem trans (h : Same M a b) (k : Same M' b c) (hm : ∀ x, x ∈ M' → x ∈ M ∨ a.heap.size ≤ x) : Same M a c :=
  ⟨k.os.trans h.os, k.tape.trans h.tape, k.output.trans h.output, Nat.le_trans h.size k.size, fun i hi hn =>
    (k.block i (Nat.lt_of_lt_of_le hi h.size) (fun hc => (hm i hc).elim hn (fun h' => by omega))).trans (h.block i hi hn)⟩
theorem then_ (h : Same M a b) (k : Same M b c) : Same M a c := h.trans k (fun _ hx => Or.inl hx)
theorem mono (h : Same M w w') (hm : ∀ x, x ∈ M → x ∈ M') : Same M' w w' := ⟨h.os, h.tape, h.output, h.size, fun i hi hn => h.block i hi (fun hc => hn (hm i hc))⟩
theorem of_below (h : Below w.heap.size w w') : Same M w w' := ⟨h.os, h.tape, h.output, h.size, fun i hi _ => h.block i hi⟩
theorem below (h : Same [] w w') : Below w.heap.size w w' := ⟨h.os, h.tape, h.output, h.size, fun i hi => h.block i hi (by simp)⟩
theorem below_ (h : Same M a b) (k : Below b.heap.size b c) : Same M a c := h.trans (of_below (M := []) k) (fun _ hx => by simp at hx)
theorem below_of (h : Same M w w') (hM : ∀ k, k ∈ M → w.heap.size ≤ k) : Below w.heap.size w w' := ⟨h.os, h.tape, h.output, h.size, fun i hi => h.block i hi (fun hc => by have := hM i hc; omega)⟩
theorem alloc (h : Same M a w) (o : Obj) : Same M a (w.alloc o) :=
  h.trans (M' := []) ⟨rfl, rfl, rfl, by simp, fun i hi _ => Below.heap_alloc _ _ _ hi⟩ (fun _ hx => by simp at hx)
theorem drew (h : Same M a w) : Same M a w.drew := ⟨h.os, h.tape, h.output, h.size, h.block⟩
theorem drewN (h : Same M a w) (n : Nat) : Same M a (w.drewN n) := ⟨h.os, h.tape, h.output, h.size, h.block⟩
theorem setCell (h : Same M a w) {p : Addr} (hp : p.block ∈ M ∨ a.heap.size ≤ p.block) (v : Value) : Same M a (w.setCell p v) :=
  h.trans (M' := [p.block]) ⟨rfl, rfl, rfl, by simp [World.setCell], fun i _ hn => Below.heap_setCell _ _ _ _ (by simpa using hn)⟩
    (fun x hx => by simp at hx; subst hx; exact hp)
theorem grown (h : Same M a w) {row : Option Nat} (hg : w.grownBy w' row) (hr : ∀ k, row = some k → k ∈ M ∨ a.heap.size ≤ k) : Same M a w' :=
  h.trans (M' := row.toList) ⟨hg.os, hg.tape, hg.output, hg.size, fun i hi hn => hg.block i hi (fun e => hn (by rw [← e]; simp))⟩
    (fun x hx => hr x (by cases row <;> simp_all))
theorem cell (h : Same M w w') {p : Addr} {v : Value} (hp : p.block ∉ M) (hc : w.cell? p = some v) : w'.cell? p = some v :=
  (World.cell?_of_block (w := w) (h.block p.block (World.block_lt_of_cell? w p hc) hp)).trans hc
theorem heap (h : Same M w w') {k : Nat} {o : Obj} (hk : k ∉ M) (ho : w.heap[k]? = some o) : w'.heap[k]? = some o :=
  (h.block k (Array.getElem?_eq_some_iff.1 ho).1 hk).trans ho
end Same

/-- How values of a type lie in memory: so many cells, whose reading leans on no block of M. -/
structure Kind (α : Type) where
  sz : Nat
  rep : List Nat → World → α → List Value → Prop
  len : ∀ {M w x cs}, rep M w x cs → cs.length = sz
  keep : ∀ {M w w' x cs}, rep M w x cs → Same M w w' → rep M w' x cs
  less : ∀ {M M' w x cs}, rep M w x cs → (∀ k, k ∈ M' → k ∈ M ∨ w.heap.size ≤ k) → rep M' w x cs
namespace Kind
variable {α β : Type}
def int (k : IntKind) : Kind Int := ⟨1, fun _ _ x cs => cs = [.int k x], fun h => by rw [h]; rfl, fun h _ => h, fun h _ => h⟩
def bool : Kind Bool := ⟨1, fun _ _ x cs => cs = [.bool x], fun h => by rw [h]; rfl, fun h _ => h, fun h _ => h⟩
def str : Kind ByteArray := ⟨1, fun _ _ x cs => cs = [.string x], fun h => by rw [h]; rfl, fun h _ => h, fun h _ => h⟩
def pair (p : Kind α) (q : Kind β) : Kind (α × β) :=
  ⟨p.sz + q.sz, fun M w x cs => ∃ c d, cs = c ++ d ∧ p.rep M w x.1 c ∧ q.rep M w x.2 d,
    fun h => by obtain ⟨c, d, rfl, h1, h2⟩ := h; rw [List.length_append, p.len h1, q.len h2],
    fun h s => by obtain ⟨c, d, rfl, h1, h2⟩ := h; exact ⟨c, d, rfl, p.keep h1 s, q.keep h2 s⟩,
    fun h s => by obtain ⟨c, d, rfl, h1, h2⟩ := h; exact ⟨c, d, rfl, p.less h1 s, q.less h2 s⟩⟩
def iso (p : Kind β) (f : α → β) : Kind α := ⟨p.sz, fun M w x cs => p.rep M w (f x) cs, fun h => p.len h, fun h s => p.keep h s, fun h s => p.less h s⟩
/-- A slice's row: the elements lie one behind the other at A, in a block that is not of M. -/
def Row (d : Kind α) (M : List Nat) (w : World) (A : Option Addr) (xs : List α) : Prop :=
  xs.length ≤ 9223372036854775807 ∧ (0 < xs.length → ∃ ad, A = some ad ∧ ad.block ∉ M ∧ ad.block < w.heap.size ∧
    ∀ i (h : i < xs.length), ∃ cs, d.rep M w xs[i] cs ∧ ∀ j u, cs[j]? = some u → w.cell? (ad.add (i * d.sz + j)) = some u)
theorem block_add (a : Addr) (n : Nat) : (a.add n).block = a.block := by unfold Addr.add; split <;> rfl
theorem add_add (a : Addr) (i j : Nat) : (a.add i).add j = a.add (i + j) := by
  unfold Addr.add
  by_cases hi : i = 0 <;> by_cases hj : j = 0 <;> simp [hi, hj, Nat.add_assoc]
theorem add_field (a : Addr) (p j : Nat) (hj : 0 < j) : a.add (p + j) = ⟨(a.add p).block, (a.add p).off + j, none⟩ := by
  have h : ∀ b : Addr, b.add j = ⟨b.block, b.off + j, none⟩ := fun b => by unfold Addr.add; rw [if_neg (by omega)]
  rw [← add_add, h]
theorem Row.keep {d : Kind α} {M : List Nat} {w w' : World} {A : Option Addr} {xs : List α} (h : d.Row M w A xs) (s : Same M w w') : d.Row M w' A xs :=
  ⟨h.1, fun hn => by
    obtain ⟨ad, e, hb, hl, hc⟩ := h.2 hn
    refine ⟨ad, e, hb, Nat.lt_of_lt_of_le hl s.size, fun i hi => ?_⟩
    obtain ⟨cs, hk, hcs⟩ := hc i hi
    exact ⟨cs, d.keep hk s, fun j u hu => s.cell (by rw [block_add]; exact hb) (hcs j u hu)⟩⟩
theorem Row.less {d : Kind α} {M M' : List Nat} {w : World} {A : Option Addr} {xs : List α} (h : d.Row M w A xs) (hm : ∀ k, k ∈ M' → k ∈ M ∨ w.heap.size ≤ k) : d.Row M' w A xs :=
  ⟨h.1, fun hn => by
    obtain ⟨ad, e, hb, hl, hc⟩ := h.2 hn
    refine ⟨ad, e, fun hb' => (hm _ hb').elim hb (fun h1 => by omega), hl, fun i hi => ?_⟩
    obtain ⟨cs, hk, hcs⟩ := hc i hi
    exact ⟨cs, d.less hk hm, hcs⟩⟩
theorem Row.nil (d : Kind α) (M : List Nat) (w : World) (A : Option Addr) : d.Row M w A [] := ⟨by simp, fun h => absurd h (by simp)⟩
theorem Row.imp {d d' : Kind α} {M : List Nat} {w : World} {A : Option Addr} {xs : List α} (hs : d'.sz = d.sz) (h : d.Row M w A xs)
    (hi : ∀ x cs, x ∈ xs → d.rep M w x cs → d'.rep M w x cs) : d'.Row M w A xs :=
  ⟨h.1, fun hn => by
    obtain ⟨ad, e, hb, hl, hc⟩ := h.2 hn
    refine ⟨ad, e, hb, hl, fun i hi' => ?_⟩
    obtain ⟨cs, hk, hcs⟩ := hc i hi'
    exact ⟨cs, hi _ _ (List.getElem_mem hi') hk, by rw [hs]; exact hcs⟩⟩
theorem Row.at_ {d : Kind α} {M : List Nat} {w : World} {A : Option Addr} {xs : List α} (h : d.Row M w A xs) (k : Nat) (hk : k < xs.length) :
    ∃ ad cs, A = some ad ∧ ad.block ∉ M ∧ d.rep M w xs[k] cs ∧ ∀ j u, cs[j]? = some u → w.cell? (ad.add (k * d.sz + j)) = some u := by
  obtain ⟨ad, e, hb, _, hc⟩ := h.2 (by omega)
  obtain ⟨cs, h1, h2⟩ := hc k hk
  exact ⟨ad, cs, e, hb, h1, h2⟩
def slice (d : Kind α) : Kind (List α) :=
  ⟨1, fun M w xs cs => ∃ A c, cs = [.slice A xs.length c] ∧ xs.length ≤ c ∧ d.Row M w A xs,
    fun h => by obtain ⟨A, c, rfl, _⟩ := h; rfl,
    fun h s => by obtain ⟨A, c, e, h1, h2⟩ := h; exact ⟨A, c, e, h1, h2.keep s⟩,
    fun h s => by obtain ⟨A, c, e, h1, h2⟩ := h; exact ⟨A, c, e, h1, h2.less s⟩⟩
end Kind
end Go.Proofs.YtgcfjkfipkfijaaGreatDoor
/-! The data of layers 1 and 2 (tokens, cells, expressions), and how they lie in memory. -/
namespace Go.Proofs.YtgcfjkfipkfijaaGreatDoor
open Go Go.RowKit

structure Tok where
  kind : Int
  text : ByteArray
  n : Int
  at_ : Int
structure Cel where
  name : ByteArray
  n : Int
inductive Ex where
  | mk (op : Int) (n : Int) (name : ByteArray) (kids : List Ex)
namespace Ex
def op : Ex → Int | .mk o _ _ _ => o
def n : Ex → Int | .mk _ n _ _ => n
def name : Ex → ByteArray | .mk _ _ s _ => s
def kids : Ex → List Ex | .mk _ _ _ k => k
theorem eta (e : Ex) : e = .mk e.op e.n e.name e.kids := by cases e; rfl
end Ex

def tokK : Kind Tok := Kind.iso (.pair (.int .i64) (.pair .str (.pair (.int .i64) (.int .i64)))) (fun t => (t.kind, t.text, t.n, t.at_))
def celK : Kind Cel := Kind.iso (.pair .str (.int .i64)) (fun c => (c.name, c.n))
def exU : Nat → Kind Ex
  | 0 => ⟨4, fun _ _ _ _ => False, fun h => h.elim, fun h _ => h.elim, fun h _ => h.elim⟩
  | d + 1 => Kind.iso (.pair (.int .i64) (.pair (.int .i64) (.pair .str (.slice (exU d))))) (fun e => (e.op, e.n, e.name, e.kids))
theorem exU_sz : ∀ d, (exU d).sz = 4
  | 0 => rfl
  | _ + 1 => rfl
theorem exU_succ {d : Nat} {M : List Nat} {w : World} {e : Ex} {cs : List Value} : (exU (d + 1)).rep M w e cs ↔
    ∃ A c, cs = [.int .i64 e.op, .int .i64 e.n, .string e.name, .slice A e.kids.length c] ∧ e.kids.length ≤ c ∧ (exU d).Row M w A e.kids := by
  constructor
  · rintro ⟨_, _, rfl, rfl, _, _, rfl, rfl, _, _, rfl, rfl, A, c, rfl, h1, h2⟩
    exact ⟨A, c, rfl, h1, h2⟩
  · rintro ⟨A, c, rfl, h1, h2⟩
    exact ⟨[.int .i64 e.op], [.int .i64 e.n, .string e.name, .slice A e.kids.length c], rfl, rfl, [.int .i64 e.n], [.string e.name, .slice A e.kids.length c], rfl, rfl, [.string e.name], [.slice A e.kids.length c], rfl, rfl, A, c, rfl, h1, h2⟩
theorem exU_mono : ∀ {d : Nat} {M : List Nat} {w : World} {e : Ex} {cs : List Value}, (exU d).rep M w e cs → (exU (d + 1)).rep M w e cs
  | 0, _, _, _, _, h => h.elim
  | d + 1, M, w, e, cs, h => by
    obtain ⟨A, c, rfl, h1, h2⟩ := exU_succ.1 h
    exact exU_succ.2 ⟨A, c, rfl, h1, h2.imp (by rw [exU_sz, exU_sz]) (fun x cs _ hx => exU_mono hx)⟩
theorem exU_le {d d' : Nat} (hd : d ≤ d') {M : List Nat} {w : World} {e : Ex} {cs : List Value} (h : (exU d).rep M w e cs) : (exU d').rep M w e cs := by
  induction hd with
  | refl => exact h
  | step _ ih => exact exU_mono ih
def exK : Kind Ex := ⟨4, fun M w e cs => ∃ d, (exU d).rep M w e cs, fun h => by obtain ⟨d, h⟩ := h; rw [(exU d).len h, exU_sz], fun h s => h.imp fun d h => (exU d).keep h s, fun h s => h.imp fun d h => (exU d).less h s⟩
theorem exK_open {M : List Nat} {w : World} {e : Ex} {cs : List Value} (h : exK.rep M w e cs) :
    ∃ A c, cs = [.int .i64 e.op, .int .i64 e.n, .string e.name, .slice A e.kids.length c] ∧ e.kids.length ≤ c ∧ exK.Row M w A e.kids := by
  obtain ⟨d, h⟩ := h
  cases d with
  | zero => exact h.elim
  | succ d =>
    obtain ⟨A, c, rfl, h1, h2⟩ := exU_succ.1 h
    exact ⟨A, c, rfl, h1, h2.imp (by rw [exU_sz]; rfl) (fun x cs _ hx => ⟨d, hx⟩)⟩
theorem exU_row {M : List Nat} {w : World} {A : Option Addr} {ks : List Ex} (h : exK.Row M w A ks) : ∃ d, (exU d).Row M w A ks := by
  by_cases hn : 0 < ks.length
  · obtain ⟨ad, e, hb, hl, hc⟩ := h.2 hn
    have key : ∀ m, m ≤ ks.length → ∃ d, ∀ i (hi : i < ks.length), i < m → ∃ cs, (exU d).rep M w ks[i] cs ∧ ∀ j u, cs[j]? = some u → w.cell? (ad.add (i * 4 + j)) = some u := by
      intro m
      induction m with
      | zero => intro _; exact ⟨0, fun i _ h => absurd h (by omega)⟩
      | succ m ih =>
        intro hm
        obtain ⟨d, hd⟩ := ih (by omega)
        obtain ⟨cs, ⟨d', h'⟩, hcs⟩ := hc m (by omega)
        refine ⟨d + d', fun i hi him => ?_⟩
        by_cases e : i = m
        · subst e; exact ⟨cs, exU_le (by omega) h', hcs⟩
        · obtain ⟨cs, h1, h2⟩ := hd i hi (by omega)
          exact ⟨cs, exU_le (by omega) h1, h2⟩
    obtain ⟨d, hd⟩ := key ks.length (Nat.le_refl _)
    refine ⟨d, h.1, fun _ => ⟨ad, e, hb, hl, fun i hi => ?_⟩⟩
    rw [exU_sz]
    exact hd i hi hi
  · exact ⟨0, h.1, fun h => absurd h hn⟩
theorem exK_mk {M : List Nat} {w : World} {e : Ex} {A : Option Addr} {c : Nat} (h1 : e.kids.length ≤ c) (h2 : exK.Row M w A e.kids) :
    exK.rep M w e [.int .i64 e.op, .int .i64 e.n, .string e.name, .slice A e.kids.length c] := by
  obtain ⟨d, h⟩ := exU_row h2
  exact ⟨d + 1, exU_succ.2 ⟨A, c, rfl, h1, h⟩⟩
/-- What the walk asks of an element that it reads. -/
theorem ex_at {M : List Nat} {w : World} {A : Option Addr} {ks : List Ex} (h : exK.Row M w A ks) (k : Nat) (hk : k < ks.length) :
    ∃ ad A' c', A = some ad ∧ w.cell? (ad.add (k * 4)) = some (.int .i64 ks[k].op) ∧ w.cell? ⟨(ad.add (k * 4)).block, (ad.add (k * 4)).off + 1, none⟩ = some (.int .i64 ks[k].n) ∧
      w.cell? ⟨(ad.add (k * 4)).block, (ad.add (k * 4)).off + 2, none⟩ = some (.string ks[k].name) ∧ w.cell? ⟨(ad.add (k * 4)).block, (ad.add (k * 4)).off + 3, none⟩ = some (.slice A' ks[k].kids.length c') ∧
      ks[k].kids.length ≤ c' ∧ exK.Row M w A' ks[k].kids ∧ ad.block ∉ M := by
  obtain ⟨ad, cs, e, hb, hr, hc⟩ := h.at_ k hk
  obtain ⟨A', c', rfl, h1, h2⟩ := exK_open hr
  have hc0 : ∀ j u, _ → w.cell? (ad.add (k * 4 + j)) = some u := hc
  exact ⟨ad, A', c', e, hc0 0 _ rfl, by rw [← Kind.add_field _ _ 1 (by omega)]; exact hc0 1 _ rfl, by rw [← Kind.add_field _ _ 2 (by omega)]; exact hc0 2 _ rfl, by rw [← Kind.add_field _ _ 3 (by omega)]; exact hc0 3 _ rfl, h1, h2, hb⟩
theorem ex_some {M : List Nat} {w : World} {ad : Addr} {ks : List Ex} (h : exK.Row M w (some ad) ks) (k : Nat) (hk : k < ks.length) :
    ∃ A' c', w.cell? (ad.add (k * 4)) = some (.int .i64 ks[k].op) ∧ w.cell? ⟨(ad.add (k * 4)).block, (ad.add (k * 4)).off + 1, none⟩ = some (.int .i64 ks[k].n) ∧
      w.cell? ⟨(ad.add (k * 4)).block, (ad.add (k * 4)).off + 2, none⟩ = some (.string ks[k].name) ∧ w.cell? ⟨(ad.add (k * 4)).block, (ad.add (k * 4)).off + 3, none⟩ = some (.slice A' ks[k].kids.length c') ∧
      ks[k].kids.length ≤ c' ∧ exK.Row M w A' ks[k].kids ∧ ad.block ∉ M := by
  obtain ⟨ad', A', c', e, h⟩ := ex_at h k hk
  injection e with e
  subst e
  exact ⟨A', c', h⟩
theorem tok_at {M : List Nat} {w : World} {A : Option Addr} {ks : List Tok} (h : tokK.Row M w A ks) (k : Nat) (hk : k < ks.length) :
    ∃ ad, A = some ad ∧ w.cell? (ad.add (k * 4)) = some (.int .i64 ks[k].kind) ∧ w.cell? ⟨(ad.add (k * 4)).block, (ad.add (k * 4)).off + 1, none⟩ = some (.string ks[k].text) ∧
      w.cell? ⟨(ad.add (k * 4)).block, (ad.add (k * 4)).off + 2, none⟩ = some (.int .i64 ks[k].n) ∧ w.cell? ⟨(ad.add (k * 4)).block, (ad.add (k * 4)).off + 3, none⟩ = some (.int .i64 ks[k].at_) ∧ ad.block ∉ M := by
  obtain ⟨ad, cs, e, hb, ⟨_, _, rfl, rfl, _, _, rfl, rfl, _, _, rfl, rfl, rfl⟩, hc⟩ := h.at_ k hk
  have hc0 : ∀ j u, _ → w.cell? (ad.add (k * 4 + j)) = some u := hc
  exact ⟨ad, e, hc0 0 _ rfl, by rw [← Kind.add_field _ _ 1 (by omega)]; exact hc0 1 _ rfl, by rw [← Kind.add_field _ _ 2 (by omega)]; exact hc0 2 _ rfl, by rw [← Kind.add_field _ _ 3 (by omega)]; exact hc0 3 _ rfl, hb⟩
theorem cel_at {M : List Nat} {w : World} {A : Option Addr} {ks : List Cel} (h : celK.Row M w A ks) (k : Nat) (hk : k < ks.length) :
    ∃ ad, A = some ad ∧ w.cell? (ad.add (k * 2)) = some (.string ks[k].name) ∧ w.cell? ⟨(ad.add (k * 2)).block, (ad.add (k * 2)).off + 1, none⟩ = some (.int .i64 ks[k].n) ∧ ad.block ∉ M := by
  obtain ⟨ad, cs, e, hb, ⟨_, _, rfl, rfl, rfl⟩, hc⟩ := h.at_ k hk
  have hc0 : ∀ j u, _ → w.cell? (ad.add (k * 2 + j)) = some u := hc
  exact ⟨ad, e, hc0 0 _ rfl, by rw [← Kind.add_field _ _ 1 (by omega)]; exact hc0 1 _ rfl, hb⟩
end Go.Proofs.YtgcfjkfipkfijaaGreatDoor
