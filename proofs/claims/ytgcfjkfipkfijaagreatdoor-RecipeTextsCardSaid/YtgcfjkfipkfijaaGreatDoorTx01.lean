/- Part 1 of the proof of rtexts_card; no conditions. -/
import Derived.Below
import Derived.Laws.OwnMore
import Derived.Deep.Draws
import Derived.WalkKit
import Derived.Lib.TrimUEq
import Derived.Lib.MapLaws
import Derived.Lib.ValidLaws
import Derived.Lib.RuneCount
import Derived.Lib.IndexMore
import Derived.Shelf.Strings.Builder1
import Derived.Shelf.Strings.Builder2
import Derived.Shelf.Strings.OnBuilder
import Derived.Shelf.Small.Strs
import Derived.Shelf.Strings.BuilderF
import Derived.Shelf.Strings.BuilderK
import Derived.Shelf.Utf8.RuneCount
import Derived.Shelf.Strconv.Itoa0
import Derived.Shelf.Strconv.Itoa1
import Derived.Shelf.LaysM
import Derived.Shelf.Strconv.Itoa2
import Derived.Shelf.Strconv.Itoa3
import Derived.Shelf.Strings.Search1
import Derived.Shelf.Strings.Search2
import Derived.Shelf.Strings.Cut
import Derived.Shelf.Strings.Shaped
import Derived.Shelf.Unicode.DecodeSlow
import Derived.Shelf.Unicode.DecodeAny
import Derived.Shelf.Slices.Turned
import Derived.Shelf.Slices.Equal
import Derived.Shelf.Slices.Empties2
import Derived.Shelf.Unicode.ValidAny
import Derived.Test.YtgcfjkfipkfijaaGreatDoorProg
import Derived.Tactics
import Derived.KernelRfl
import Derived.LoopTactic
import Derived.Deep.QuietTactic
import Derived.BigQuiet
import Derived.Outline
import Derived.Lib.Hide
import Derived.Laws.RangeString
import Derived.Laws.RangeAny
namespace Go.Proofs.YtgcfjkfipkfijaaGreatDoor
open Go Go.RowKit
structure Same (M : List Nat) (w w' : World) : Prop where
 os : w'.os = w.os
 tape : w'.tape = w.tape
 output : w'.output = w.output
 size : w.heap.size ≤ w'.heap.size
 block : ∀ k, k < w.heap.size → k ∉ M → w'.heap[k]? = w.heap[k]?
namespace Same
variable {M M' : List Nat} {a b c w w' : World}
theorem refl (M : List Nat) (w : World) : Same M w w := ⟨rfl, rfl, rfl, Nat.le_refl _, fun _ _ _ => rfl⟩
theorem trans (h : Same M a b) (k : Same M' b c) (hm : ∀ x, x ∈ M' → x ∈ M ∨ a.heap.size ≤ x) : Same M a c :=
 ⟨k.os.trans h.os, k.tape.trans h.tape, k.output.trans h.output, Nat.le_trans h.size k.size, fun i hi hn =>
  (k.block i (Nat.lt_of_lt_of_le hi h.size) (fun hc => (hm i hc).elim hn (fun h' => by omega))).trans (h.block i hi hn)⟩
theorem then_ (h : Same M a b) (k : Same M b c) : Same M a c := h.trans k (fun _ hx => Or.inl hx)
theorem mono (h : Same M w w') (hm : ∀ x, x ∈ M → x ∈ M') : Same M' w w' := ⟨h.os, h.tape, h.output, h.size, fun i hi hn => h.block i hi (fun hc => hn (hm i hc))⟩
theorem of_below (h : Below w.heap.size w w') : Same M w w' := ⟨h.os, h.tape, h.output, h.size, fun i hi _ => h.block i hi⟩
theorem below (h : Same [] w w') : Below w.heap.size w w' := ⟨h.os, h.tape, h.output, h.size, fun i hi => h.block i hi (by simp)⟩
theorem below_ (h : Same M a b) (k : Below b.heap.size b c) : Same M a c := h.trans (of_below (M := []) k) (fun _ hx => by simp at hx)
theorem below_of (h : Same M w w') (hM : ∀ k, k ∈ M → w.heap.size ≤ k) : Below w.heap.size w w' := ⟨h.os, h.tape, h.output, h.size, fun i hi => h.block i hi (fun hc => by have := hM i hc; omega)⟩
theorem alloc (h : Same M a w) (o : Obj) : Same M a (w.alloc o) :=
 h.trans (M' := []) ⟨rfl, rfl, rfl, by simp, fun i hi _ => Below.heap_alloc _ _ _ hi⟩ (fun _ hx => by simp at hx)
theorem drew (h : Same M a w) : Same M a w.drew := ⟨h.os, h.tape, h.output, h.size, h.block⟩
theorem drewN (h : Same M a w) (n : Nat) : Same M a (w.drewN n) := ⟨h.os, h.tape, h.output, h.size, h.block⟩
theorem setCell (h : Same M a w) {p : Addr} (hp : p.block ∈ M ∨ a.heap.size ≤ p.block) (v : Value) : Same M a (w.setCell p v) :=
 h.trans (M' := [p.block]) ⟨rfl, rfl, rfl, by simp [World.setCell], fun i _ hn => Below.heap_setCell _ _ _ _ (by simpa using hn)⟩
  (fun x hx => by simp at hx; subst hx; exact hp)
theorem grown (h : Same M a w) {row : Option Nat} (hg : w.grownBy w' row) (hr : ∀ k, row = some k → k ∈ M ∨ a.heap.size ≤ k) : Same M a w' :=
 h.trans (M' := row.toList) ⟨hg.os, hg.tape, hg.output, hg.size, fun i hi hn => hg.block i hi (fun e => hn (by rw [← e]; simp))⟩
  (fun x hx => hr x (by cases row <;> simp_all))
theorem cell (h : Same M w w') {p : Addr} {v : Value} (hp : p.block ∉ M) (hc : w.cell? p = some v) : w'.cell? p = some v :=
 (World.cell?_of_block (w := w) (h.block p.block (World.block_lt_of_cell? w p hc) hp)).trans hc
theorem heap (h : Same M w w') {k : Nat} {o : Obj} (hk : k ∉ M) (ho : w.heap[k]? = some o) : w'.heap[k]? = some o :=
 (h.block k (Array.getElem?_eq_some_iff.1 ho).1 hk).trans ho
end Same
structure Kind (α : Type) where
 sz : Nat
 rep : List Nat → World → α → List Value → Prop
 len : ∀ {M w x cs}, rep M w x cs → cs.length = sz
 keep : ∀ {M w w' x cs}, rep M w x cs → Same M w w' → rep M w' x cs
 less : ∀ {M M' w x cs}, rep M w x cs → (∀ k, k ∈ M' → k ∈ M ∨ w.heap.size ≤ k) → rep M' w x cs
namespace Kind
variable {α β : Type}
def int (k : IntKind) : Kind Int := ⟨1, fun _ _ x cs => cs = [.int k x], fun h => by rw [h]; rfl, fun h _ => h, fun h _ => h⟩
def bool : Kind Bool := ⟨1, fun _ _ x cs => cs = [.bool x], fun h => by rw [h]; rfl, fun h _ => h, fun h _ => h⟩
def str : Kind ByteArray := ⟨1, fun _ _ x cs => cs = [.string x], fun h => by rw [h]; rfl, fun h _ => h, fun h _ => h⟩
def pair (p : Kind α) (q : Kind β) : Kind (α × β) :=
 ⟨p.sz + q.sz, fun M w x cs => ∃ c d, cs = c ++ d ∧ p.rep M w x.1 c ∧ q.rep M w x.2 d,
  fun h => by obtain ⟨c, d, rfl, h1, h2⟩ := h; rw [List.length_append, p.len h1, q.len h2],
  fun h s => by obtain ⟨c, d, rfl, h1, h2⟩ := h; exact ⟨c, d, rfl, p.keep h1 s, q.keep h2 s⟩,
  fun h s => by obtain ⟨c, d, rfl, h1, h2⟩ := h; exact ⟨c, d, rfl, p.less h1 s, q.less h2 s⟩⟩
def iso (p : Kind β) (f : α → β) : Kind α := ⟨p.sz, fun M w x cs => p.rep M w (f x) cs, fun h => p.len h, fun h s => p.keep h s, fun h s => p.less h s⟩
def Row (d : Kind α) (M : List Nat) (w : World) (A : Option Addr) (xs : List α) : Prop :=
 xs.length ≤ 9223372036854775807 ∧ (0 < xs.length → ∃ ad, A = some ad ∧ ad.block ∉ M ∧ ad.block < w.heap.size ∧
  ∀ i (h : i < xs.length), ∃ cs, d.rep M w xs[i] cs ∧ ∀ j u, cs[j]? = some u → w.cell? (ad.add (i * d.sz + j)) = some u)
theorem block_add (a : Addr) (n : Nat) : (a.add n).block = a.block := by unfold Addr.add; split <;> rfl
theorem add_add (a : Addr) (i j : Nat) : (a.add i).add j = a.add (i + j) := by
 unfold Addr.add
 by_cases hi : i = 0 <;> by_cases hj : j = 0 <;> simp [hi, hj, Nat.add_assoc]
theorem add_field (a : Addr) (p j : Nat) (hj : 0 < j) : a.add (p + j) = ⟨(a.add p).block, (a.add p).off + j, none⟩ := by
 have h : ∀ b : Addr, b.add j = ⟨b.block, b.off + j, none⟩ := fun b => by unfold Addr.add; rw [if_neg (by omega)]
 rw [← add_add, h]
theorem Row.keep {d : Kind α} {M : List Nat} {w w' : World} {A : Option Addr} {xs : List α} (h : d.Row M w A xs) (s : Same M w w') : d.Row M w' A xs :=
 ⟨h.1, fun hn => by
  obtain ⟨ad, e, hb, hl, hc⟩ := h.2 hn
  refine ⟨ad, e, hb, Nat.lt_of_lt_of_le hl s.size, fun i hi => ?_⟩
  obtain ⟨cs, hk, hcs⟩ := hc i hi
  exact ⟨cs, d.keep hk s, fun j u hu => s.cell (by rw [block_add]; exact hb) (hcs j u hu)⟩⟩
theorem Row.less {d : Kind α} {M M' : List Nat} {w : World} {A : Option Addr} {xs : List α} (h : d.Row M w A xs) (hm : ∀ k, k ∈ M' → k ∈ M ∨ w.heap.size ≤ k) : d.Row M' w A xs :=
 ⟨h.1, fun hn => by
  obtain ⟨ad, e, hb, hl, hc⟩ := h.2 hn
  refine ⟨ad, e, fun hb' => (hm _ hb').elim hb (fun h1 => by omega), hl, fun i hi => ?_⟩
  obtain ⟨cs, hk, hcs⟩ := hc i hi
  exact ⟨cs, d.less hk hm, hcs⟩⟩
theorem Row.nil (d : Kind α) (M : List Nat) (w : World) (A : Option Addr) : d.Row M w A [] := ⟨by simp, fun h => absurd h (by simp)⟩
theorem Row.imp {d d' : Kind α} {M : List Nat} {w : World} {A : Option Addr} {xs : List α} (hs : d'.sz = d.sz) (h : d.Row M w A xs)
  (hi : ∀ x cs, x ∈ xs → d.rep M w x cs → d'.rep M w x cs) : d'.Row M w A xs :=
 ⟨h.1, fun hn => by
  obtain ⟨ad, e, hb, hl, hc⟩ := h.2 hn
  refine ⟨ad, e, hb, hl, fun i hi' => ?_⟩
  obtain ⟨cs, hk, hcs⟩ := hc i hi'
  exact ⟨cs, hi _ _ (List.getElem_mem hi') hk, by rw [hs]; exact hcs⟩⟩
theorem Row.at_ {d : Kind α} {M : List Nat} {w : World} {A : Option Addr} {xs : List α} (h : d.Row M w A xs) (k : Nat) (hk : k < xs.length) :
  ∃ ad cs, A = some ad ∧ ad.block ∉ M ∧ d.rep M w xs[k] cs ∧ ∀ j u, cs[j]? = some u → w.cell? (ad.add (k * d.sz + j)) = some u := by
 obtain ⟨ad, e, hb, _, hc⟩ := h.2 (by omega)
 obtain ⟨cs, h1, h2⟩ := hc k hk
 exact ⟨ad, cs, e, hb, h1, h2⟩
def slice (d : Kind α) : Kind (List α) :=
 ⟨1, fun M w xs cs => ∃ A c, cs = [.slice A xs.length c] ∧ xs.length ≤ c ∧ d.Row M w A xs,
  fun h => by obtain ⟨A, c, rfl, _⟩ := h; rfl,
  fun h s => by obtain ⟨A, c, e, h1, h2⟩ := h; exact ⟨A, c, e, h1, h2.keep s⟩,
  fun h s => by obtain ⟨A, c, e, h1, h2⟩ := h; exact ⟨A, c, e, h1, h2.less s⟩⟩
end Kind
end Go.Proofs.YtgcfjkfipkfijaaGreatDoor
namespace Go.Proofs.YtgcfjkfipkfijaaGreatDoor
open Go Go.RowKit
structure Tok where
 kind : Int
 text : ByteArray
 n : Int
 at_ : Int
inductive Ex where
 | mk (op : Int) (n : Int) (name : ByteArray) (kids : List Ex)
namespace Ex
def op : Ex → Int | .mk o _ _ _ => o
def n : Ex → Int | .mk _ n _ _ => n
def name : Ex → ByteArray | .mk _ _ s _ => s
def kids : Ex → List Ex | .mk _ _ _ k => k
theorem eta (e : Ex) : e = .mk e.op e.n e.name e.kids := by cases e; rfl
end Ex
def tokK : Kind Tok := Kind.iso (.pair (.int .i64) (.pair .str (.pair (.int .i64) (.int .i64)))) (fun t => (t.kind, t.text, t.n, t.at_))
def exU : Nat → Kind Ex
 | 0 => ⟨4, fun _ _ _ _ => False, fun h => h.elim, fun h _ => h.elim, fun h _ => h.elim⟩
 | d + 1 => Kind.iso (.pair (.int .i64) (.pair (.int .i64) (.pair .str (.slice (exU d))))) (fun e => (e.op, e.n, e.name, e.kids))
theorem exU_sz : ∀ d, (exU d).sz = 4
 | 0 => rfl
 | _ + 1 => rfl
theorem exU_succ {d : Nat} {M : List Nat} {w : World} {e : Ex} {cs : List Value} : (exU (d + 1)).rep M w e cs ↔
  ∃ A c, cs = [.int .i64 e.op, .int .i64 e.n, .string e.name, .slice A e.kids.length c] ∧ e.kids.length ≤ c ∧ (exU d).Row M w A e.kids := by
 constructor
 ·rintro ⟨_, _, rfl, rfl, _, _, rfl, rfl, _, _, rfl, rfl, A, c, rfl, h1, h2⟩
  exact ⟨A, c, rfl, h1, h2⟩
 ·rintro ⟨A, c, rfl, h1, h2⟩
  exact ⟨[.int .i64 e.op], [.int .i64 e.n, .string e.name, .slice A e.kids.length c], rfl, rfl, [.int .i64 e.n], [.string e.name, .slice A e.kids.length c], rfl, rfl, [.string e.name], [.slice A e.kids.length c], rfl, rfl, A, c, rfl, h1, h2⟩
theorem exU_mono : ∀ {d : Nat} {M : List Nat} {w : World} {e : Ex} {cs : List Value}, (exU d).rep M w e cs → (exU (d + 1)).rep M w e cs
 | 0, _, _, _, _, h => h.elim
 | d + 1, M, w, e, cs, h => by
  obtain ⟨A, c, rfl, h1, h2⟩ := exU_succ.1 h
  exact exU_succ.2 ⟨A, c, rfl, h1, h2.imp (by rw [exU_sz, exU_sz]) (fun x cs _ hx => exU_mono hx)⟩
theorem exU_le {d d' : Nat} (hd : d ≤ d') {M : List Nat} {w : World} {e : Ex} {cs : List Value} (h : (exU d).rep M w e cs) : (exU d').rep M w e cs := by
 induction hd with
 | refl => exact h
 | step _ ih => exact exU_mono ih
def exK : Kind Ex := ⟨4, fun M w e cs => ∃ d, (exU d).rep M w e cs, fun h => by obtain ⟨d, h⟩ := h; rw [(exU d).len h, exU_sz], fun h s => h.imp fun d h => (exU d).keep h s, fun h s => h.imp fun d h => (exU d).less h s⟩
theorem exK_open {M : List Nat} {w : World} {e : Ex} {cs : List Value} (h : exK.rep M w e cs) :
  ∃ A c, cs = [.int .i64 e.op, .int .i64 e.n, .string e.name, .slice A e.kids.length c] ∧ e.kids.length ≤ c ∧ exK.Row M w A e.kids := by
 obtain ⟨d, h⟩ := h
 cases d with
 | zero => exact h.elim
 | succ d =>
  obtain ⟨A, c, rfl, h1, h2⟩ := exU_succ.1 h
  exact ⟨A, c, rfl, h1, h2.imp (by rw [exU_sz]; rfl) (fun x cs _ hx => ⟨d, hx⟩)⟩
theorem exU_row {M : List Nat} {w : World} {A : Option Addr} {ks : List Ex} (h : exK.Row M w A ks) : ∃ d, (exU d).Row M w A ks := by
 by_cases hn : 0 < ks.length
 ·obtain ⟨ad, e, hb, hl, hc⟩ := h.2 hn
  have key : ∀ m, m ≤ ks.length → ∃ d, ∀ i (hi : i < ks.length), i < m → ∃ cs, (exU d).rep M w ks[i] cs ∧ ∀ j u, cs[j]? = some u → w.cell? (ad.add (i * 4 + j)) = some u := by
   intro m
   induction m with
   | zero => intro _; exact ⟨0, fun i _ h => absurd h (by omega)⟩
   | succ m ih =>
    intro hm
    obtain ⟨d, hd⟩ := ih (by omega)
    obtain ⟨cs, ⟨d', h'⟩, hcs⟩ := hc m (by omega)
    refine ⟨d + d', fun i hi him => ?_⟩
    by_cases e : i = m
    ·subst e; exact ⟨cs, exU_le (by omega) h', hcs⟩
    ·obtain ⟨cs, h1, h2⟩ := hd i hi (by omega)
     exact ⟨cs, exU_le (by omega) h1, h2⟩
  obtain ⟨d, hd⟩ := key ks.length (Nat.le_refl _)
  refine ⟨d, h.1, fun _ => ⟨ad, e, hb, hl, fun i hi => ?_⟩⟩
  rw [exU_sz]
  exact hd i hi hi
 ·exact ⟨0, h.1, fun h => absurd h hn⟩
theorem exK_mk {M : List Nat} {w : World} {e : Ex} {A : Option Addr} {c : Nat} (h1 : e.kids.length ≤ c) (h2 : exK.Row M w A e.kids) :
  exK.rep M w e [.int .i64 e.op, .int .i64 e.n, .string e.name, .slice A e.kids.length c] := by
 obtain ⟨d, h⟩ := exU_row h2
 exact ⟨d + 1, exU_succ.2 ⟨A, c, rfl, h1, h⟩⟩
theorem ex_at {M : List Nat} {w : World} {A : Option Addr} {ks : List Ex} (h : exK.Row M w A ks) (k : Nat) (hk : k < ks.length) :
  ∃ ad A' c', A = some ad ∧ w.cell? (ad.add (k * 4)) = some (.int .i64 ks[k].op) ∧ w.cell? ⟨(ad.add (k * 4)).block, (ad.add (k * 4)).off + 1, none⟩ = some (.int .i64 ks[k].n) ∧
   w.cell? ⟨(ad.add (k * 4)).block, (ad.add (k * 4)).off + 2, none⟩ = some (.string ks[k].name) ∧ w.cell? ⟨(ad.add (k * 4)).block, (ad.add (k * 4)).off + 3, none⟩ = some (.slice A' ks[k].kids.length c') ∧
   ks[k].kids.length ≤ c' ∧ exK.Row M w A' ks[k].kids ∧ ad.block ∉ M := by
 obtain ⟨ad, cs, e, hb, hr, hc⟩ := h.at_ k hk
 obtain ⟨A', c', rfl, h1, h2⟩ := exK_open hr
 have hc0 : ∀ j u, _ → w.cell? (ad.add (k * 4 + j)) = some u := hc
 exact ⟨ad, A', c', e, hc0 0 _ rfl, by rw [← Kind.add_field _ _ 1 (by omega)]; exact hc0 1 _ rfl, by rw [← Kind.add_field _ _ 2 (by omega)]; exact hc0 2 _ rfl, by rw [← Kind.add_field _ _ 3 (by omega)]; exact hc0 3 _ rfl, h1, h2, hb⟩
theorem ex_some {M : List Nat} {w : World} {ad : Addr} {ks : List Ex} (h : exK.Row M w (some ad) ks) (k : Nat) (hk : k < ks.length) :
  ∃ A' c', w.cell? (ad.add (k * 4)) = some (.int .i64 ks[k].op) ∧ w.cell? ⟨(ad.add (k * 4)).block, (ad.add (k * 4)).off + 1, none⟩ = some (.int .i64 ks[k].n) ∧
   w.cell? ⟨(ad.add (k * 4)).block, (ad.add (k * 4)).off + 2, none⟩ = some (.string ks[k].name) ∧ w.cell? ⟨(ad.add (k * 4)).block, (ad.add (k * 4)).off + 3, none⟩ = some (.slice A' ks[k].kids.length c') ∧
   ks[k].kids.length ≤ c' ∧ exK.Row M w A' ks[k].kids ∧ ad.block ∉ M := by
 obtain ⟨ad', A', c', e, h⟩ := ex_at h k hk
 injection e with e
 subst e
 exact ⟨A', c', h⟩
theorem tok_at {M : List Nat} {w : World} {A : Option Addr} {ks : List Tok} (h : tokK.Row M w A ks) (k : Nat) (hk : k < ks.length) :
  ∃ ad, A = some ad ∧ w.cell? (ad.add (k * 4)) = some (.int .i64 ks[k].kind) ∧ w.cell? ⟨(ad.add (k * 4)).block, (ad.add (k * 4)).off + 1, none⟩ = some (.string ks[k].text) ∧
   w.cell? ⟨(ad.add (k * 4)).block, (ad.add (k * 4)).off + 2, none⟩ = some (.int .i64 ks[k].n) ∧ w.cell? ⟨(ad.add (k * 4)).block, (ad.add (k * 4)).off + 3, none⟩ = some (.int .i64 ks[k].at_) ∧ ad.block ∉ M := by
 obtain ⟨ad, cs, e, hb, ⟨_, _, rfl, rfl, _, _, rfl, rfl, _, _, rfl, rfl, rfl⟩, hc⟩ := h.at_ k hk
 have hc0 : ∀ j u, _ → w.cell? (ad.add (k * 4 + j)) = some u := hc
 exact ⟨ad, e, hc0 0 _ rfl, by rw [← Kind.add_field _ _ 1 (by omega)]; exact hc0 1 _ rfl, by rw [← Kind.add_field _ _ 2 (by omega)]; exact hc0 2 _ rfl, by rw [← Kind.add_field _ _ 3 (by omega)]; exact hc0 3 _ rfl, hb⟩
end Go.Proofs.YtgcfjkfipkfijaaGreatDoor
namespace Go.Proofs.YtgcfjkfipkfijaaGreatDoor
open Go Go.RowKit Go.Lib
def runesF : Nat → List UInt8 → List (Nat × Nat)
 | 0, _ => []
 | n + 1, l => if l = [] then [] else decodeL l :: runesF n (l.drop (decodeL l).2)
def runes (l : List UInt8) : List (Nat × Nat) := runesF l.length l
theorem runesF_nil : ∀ n, runesF n [] = []
 | 0 => rfl
 | _ + 1 => rfl
theorem runesF_fuel : ∀ (n m : Nat) (l : List UInt8), l.length ≤ n → l.length ≤ m → runesF n l = runesF m l := by
 intro n
 induction n with
 | zero => intro m l hn _; rw [List.eq_nil_of_length_eq_zero (by omega : l.length = 0), runesF_nil, runesF_nil]
 | succ n ih =>
  intro m l hn hm
  by_cases hl : l = []
  ·rw [hl, runesF_nil, runesF_nil]
  ·have h1 : 0 < l.length := List.length_pos_iff.2 hl
   obtain ⟨m, rfl⟩ : ∃ k, m = k + 1 := ⟨m - 1, by omega⟩
   have hw := decodeL_width l
   simp only [runesF, if_neg hl]
   rw [ih m _ (by rw [List.length_drop]; omega) (by rw [List.length_drop]; omega)]
theorem runes_nil : runes [] = [] := rfl
theorem runes_cons (l : List UInt8) (h : l ≠ []) : runes l = decodeL l :: runes (l.drop (decodeL l).2) := by
 have h1 : 0 < l.length := List.length_pos_iff.2 h
 have hw := decodeL_width l
 unfold runes
 obtain ⟨n, hn⟩ : ∃ k, l.length = k + 1 := ⟨l.length - 1, by omega⟩
 rw [hn]
 simp only [runesF, if_neg h]
 rw [runesF_fuel n _ _ (by rw [List.length_drop]; omega) (Nat.le_refl _)]
theorem runes_at (s : ByteArray) (pos : Nat) (h : pos < s.size) :
  runes (s.data.toList.drop pos) = Utf8.decode s pos :: runes (s.data.toList.drop (pos + (Utf8.decode s pos).2)) := by
 have hl : s.data.toList.drop pos ≠ [] := by
  intro e
  have := congrArg List.length e
  simp at this
  have : s.data.size = s.size := rfl
  omega
 rw [runes_cons _ hl, decodeL_drop, List.drop_drop]
theorem runes_end (s : ByteArray) (pos : Nat) (h : ¬ pos < s.size) : runes (s.data.toList.drop pos) = [] := by
 rw [List.drop_of_length_le (by simp; have : s.data.size = s.size := rfl; omega), runes_nil]
theorem decode_fits (s : ByteArray) (pos : Nat) (h : pos < s.size) : pos + (Utf8.decode s pos).2 ≤ s.size := by
 have hl : s.data.toList.drop pos ≠ [] := by
  intro e
  have := congrArg List.length e
  simp at this
  have : s.data.size = s.size := rfl
  omega
 have := decodeL_le _ hl
 rw [decodeL_drop] at this
 simp at this
 have : s.data.size = s.size := rfl
 omega
theorem runeCountFrom_runes (s : ByteArray) : ∀ (fuel pos : Nat), s.size ≤ pos + fuel → runeCountFrom s fuel pos = (runes (s.data.toList.drop pos)).length := by
 intro fuel
 induction fuel with
 | zero => intro pos h; rw [runes_end s pos (by omega)]; rfl
 | succ n ih =>
  intro pos h
  simp only [runeCountFrom]
  by_cases hp : pos < s.size
  ·have := decode_width_pos s pos hp
   rw [if_pos hp, runes_at s pos hp, ih _ (by omega), List.length_cons]
   omega
  ·rw [if_neg hp, runes_end s pos hp]; rfl
theorem runeCount_runes (s : ByteArray) : runeCount s = (runes s.data.toList).length := by
 unfold runeCount
 rw [runeCountFrom_runes s _ _ (by omega), List.drop_zero]
theorem validD_runes (l : List UInt8) : validD l = (runes l).all (fun r => !(r == (65533, 1))) := by
 obtain ⟨n, hn⟩ : ∃ n, l.length = n := ⟨_, rfl⟩
 induction n using Nat.strongRecOn generalizing l with
 | _ n ih =>
  by_cases hl : l = []
  ·subst hl; rfl
  ·have h1 : 0 < l.length := List.length_pos_iff.2 hl
   have hw := decodeL_width l
   rw [validD_step l hl, runes_cons l hl, List.all_cons]
   by_cases hb : (decodeL l).1 = 65533 ∧ (decodeL l).2 = 1
   ·rw [if_pos hb]
    have : (decodeL l) = (65533, 1) := Prod.ext hb.1 hb.2
    simp [this]
   ·rw [if_neg hb, ih _ (by rw [← hn, List.length_drop]; omega) _ rfl]
    have : (decodeL l == (65533, 1)) = false := by
     rw [beq_eq_false_iff_ne]; intro e; exact hb ⟨by rw [e], by rw [e]⟩
    simp [this]
def signs : List UInt8 := [40, 41, 123, 125, 44, 59, 58, 61, 43, 45, 42, 47, 37, 60, 62, 33, 38, 124]
def cls (r : Int) : Int :=
 if r = 32 ∨ r = 9 ∨ r = 13 ∨ r = 10 then 1
 else if (97 ≤ r ∧ r ≤ 122) ∨ (65 ≤ r ∧ r ≤ 90) ∨ r = 95 then 2
 else if 192 ≤ r ∧ r ≤ 591 ∧ r ≠ 215 ∧ r ≠ 247 then 2
 else if 48 ≤ r ∧ r ≤ 57 then 3
 else if r = 34 then 5
 else if r = 35 then 6
 else if 32 < r ∧ r < 127 ∧ 0 ≤ indexByte signs r.toNat.toUInt8 then 4
 else 0
def isW (r : Nat) : Bool := cls r == 2 || cls r == 3
def wordyL (rs : List (Nat × Nat)) : Bool := rs.all fun r => isW r.1
def wordyB (s : ByteArray) : Bool := wordyL (runes s.data.toList) && decide (s.size ≠ 0)
def badF : Int → List (Nat × Nat) → Int
 | _, [] => -1
 | k, r :: rs => if r = (65533, 1) then k else badF (k + 1) rs
def wordN : List (Nat × Nat) → Nat
 | [] => 0
 | r :: rs => if isW r.1 then r.2 + wordN rs else 0
def numF : Nat → List (Nat × Nat) → Option Nat
 | a, [] => some a
 | a, r :: rs => if cls r.1 = 3 then numF (10 * a + (r.1 - 48)) rs else none
def numT : Option Nat → Int × Bool
 | none => (0, false)
 | some n => if 9223372036854775807 < n then (0, false) else (n, true)
def numB (s : ByteArray) : Int × Bool :=
 if s.size = 0 ∨ 19 < s.size ∨ 1 < s.size ∧ s.data.toList.getD 0 0 = 48 then (0, false) else numT (numF 0 (runes s.data.toList))
def nameB (s : ByteArray) : Bool :=
 validD s.data.toList && wordyB s && (decide ((s.data.toList.getD 0 0).toNat < 48) || decide (57 < (s.data.toList.getD 0 0).toNat)) && decide ((runes s.data.toList).length ≤ 12)
end Go.Proofs.YtgcfjkfipkfijaaGreatDoor
namespace Go.Proofs.YtgcfjkfipkfijaaGreatDoor
open Go Go.RowKit Go.Lib
def skipN (l : List UInt8) : Nat :=
 match l with
 | [] => 0
 | c :: _ => if cls c.toNat = 1 then 1 else if cls c.toNat = 6 then (if indexByte l 10 < 0 then l.length else (indexByte l 10).toNat) else 0
def skipF : Nat → List UInt8 → Int → List UInt8 × Int
 | 0, l, a => (l, a)
 | f + 1, l, a => if skipN l = 0 then (l, a) else skipF f (l.drop (skipN l)) (a + (runes (l.take (skipN l))).length)
def zTok : Tok := ⟨0, ⟨#[]⟩, 0, 0⟩
def textF (l : List UInt8) : Tok × Int × Int :=
 let c := cut (cut (l.drop 1) [10]).1 [34]
 if c.2.2 = false then (zTok, 0, 11)
 else if (runes c.1).any (fun r => decide (r.1 < 32)) then (zTok, 0, 11)
 else if 20 < (runes c.1).length then (zTok, 0, 2)
 else (⟨3, bytes' c.1, 0, 0⟩, c.1.length + 2, 0)
where bytes' (l : List UInt8) : ByteArray := ⟨l.toArray⟩
def tokF (l : List UInt8) : Tok × Int × Int :=
 let k := cls (decodeL l).1
 let n := wordN (runes l)
 if k = 2 then (if 12 < (runes (l.take n)).length then (zTok, 0, 2) else (⟨1, ⟨(l.take n).toArray⟩, 0, 0⟩, n, 0))
 else if k = 3 then (if (numB ⟨(l.take n).toArray⟩).2 then (⟨2, ⟨(l.take n).toArray⟩, (numB ⟨(l.take n).toArray⟩).1, 0⟩, n, 0) else (zTok, 0, 11))
 else if k = 5 then textF l
 else if k = 4 then
  let m := if 1 < l.length ∧ l.getD 1 0 = 61 ∧ 0 ≤ indexByte [60, 62, 61, 33, 58] (l.getD 0 0) then 2 else (decodeL l).2
  (⟨4, ⟨(l.take m).toArray⟩, 0, 0⟩, m, 0)
 else (zTok, 0, 11)
def skip (l : List UInt8) (a : Int) : List UInt8 × Int := skipF (l.length + 1) l a
def cutG : Nat → List UInt8 → Int → List Tok → List Tok × Int × Int
 | 0, _, _, _ => ([], 0, 0)
 | f + 1, l, a, out =>
  if l = [] then (out ++ [⟨0, ⟨#[]⟩, 0, a⟩], 0, 0)
  else
   let t := tokF l
   let e := if out.length = 2000 then 2 else t.2.2
   if e ≠ 0 then ([], e, a)
   else
    let p := skip (l.drop t.2.1.toNat) (a + (runes (l.take t.2.1.toNat)).length)
    cutG f p.1 p.2 (out ++ [{ t.1 with at_ := a }])
def cutB (s : ByteArray) : List Tok × Int × Int :=
 if 8192 < s.size then ([], 2, 0)
 else if 0 ≤ badF 0 (runes s.data.toList) then ([], 10, badF 0 (runes s.data.toList))
 else cutG (s.size + 1) (skip s.data.toList 0).1 (skip s.data.toList 0).2 []
theorem skipF_step {f : Nat} {l : List UInt8} {a : Int} (h : skipN l ≠ 0) : skipF (f + 1) l a = skipF f (l.drop (skipN l)) (a + (runes (l.take (skipN l))).length) := by
 simp only [skipF, if_neg h]
theorem skipF_end {f : Nat} {l : List UInt8} {a : Int} (h : skipN l = 0) : skipF f l a = (l, a) := by
 cases f with
 | zero => rfl
 | succ f => simp only [skipF, if_pos h]
theorem indexByte_le : ∀ (l : List UInt8) (c : UInt8), -1 ≤ indexByte l c ∧ indexByte l c < l.length
 | [], _ => by simp [indexByte]
 | b :: l, c => by
  have := indexByte_le l c
  simp only [indexByte, List.length_cons]
  repeat' split
  all_goals omega
theorem runes_le : ∀ (n : Nat) (l : List UInt8), l.length ≤ n → (runes l).length ≤ l.length := by
 intro n
 induction n with
 | zero => intro l h; rw [List.eq_nil_of_length_eq_zero (by omega : l.length = 0)]; exact Nat.le_refl _
 | succ n ih =>
  intro l h
  by_cases hl : l = []
  ·subst hl; exact Nat.le_refl _
  ·have h1 : 0 < l.length := List.length_pos_iff.2 hl
   have hw := decodeL_width l
   have := ih (l.drop (decodeL l).2) (by rw [List.length_drop]; omega)
   rw [runes_cons l hl, List.length_cons]
   rw [List.length_drop] at this
   omega
theorem runes_len (l : List UInt8) : (runes l).length ≤ l.length := runes_le _ l (Nat.le_refl _)
end Go.Proofs.YtgcfjkfipkfijaaGreatDoor
namespace Go.Proofs.YtgcfjkfipkfijaaGreatDoor
open Go Go.RowKit Go.Lib
theorem wordN_le' : ∀ (n : Nat) (l : List UInt8), l.length ≤ n → wordN (runes l) ≤ l.length := by
 intro n
 induction n with
 | zero => intro l h; rw [List.eq_nil_of_length_eq_zero (by omega : l.length = 0)]; exact Nat.le_refl _
 | succ n ih =>
  intro l h
  by_cases hl : l = []
  ·subst hl; exact Nat.le_refl _
  ·have h1 : 0 < l.length := List.length_pos_iff.2 hl
   have hw := decodeL_width l
   have hle := decodeL_le l hl
   have := ih (l.drop (decodeL l).2) (by rw [List.length_drop]; omega)
   rw [List.length_drop] at this
   rw [runes_cons l hl]
   simp only [wordN]
   split <;> omega
theorem wordN_pos {l : List UInt8} (hl : l ≠ []) (h : cls (decodeL l).1 = 2 ∨ cls (decodeL l).1 = 3) : 1 ≤ wordN (runes l) := by
 have hw := decodeL_width l
 rw [runes_cons l hl]
 have : isW (decodeL l).1 = true := by unfold isW; rcases h with h | h <;> rw [h] <;> rfl
 simp only [wordN, this, if_true]
 omega
theorem cut_found {l sep : List UInt8} (h : (cut l sep).2.2 = true) (hs : sep.length = 1) : (cut l sep).1.length + 1 ≤ l.length := by
 unfold cut at h ⊢
 by_cases hi : 0 ≤ index l sep
 ·rw [if_pos hi]
  have hb := index_room l sep hi
  simp
  omega
 ·rw [if_neg hi] at h
  simp at h
theorem cut_len' (l sep : List UInt8) : (cut l sep).1.length ≤ l.length := by
 unfold cut
 split
 ·simp; omega
 ·simp
theorem textF_ok {l : List UInt8} (h : (textF l).2.2 = 0) : 1 ≤ (textF l).2.1 ∧ (textF l).2.1 ≤ l.length := by
 unfold textF at h ⊢
 simp only at h ⊢
 by_cases h1 : (cut (cut (l.drop 1) [10]).1 [34]).2.2 = false
 ·rw [if_pos h1] at h; simp at h
 ·rw [if_neg h1] at h ⊢
  have h1' : (cut (cut (l.drop 1) [10]).1 [34]).2.2 = true := by simpa using h1
  have a := cut_found h1' rfl
  have b := cut_len' (l.drop 1) [10]
  rw [List.length_drop] at b
  split at h
  ·simp at h
  ·rename_i h2
   rw [if_neg h2]
   split at h
   ·simp at h
   ·rename_i h3
    rw [if_neg h3]
    simp only
    omega
theorem tokF_ok {l : List UInt8} (hl : l ≠ []) (h : (tokF l).2.2 = 0) : 1 ≤ (tokF l).2.1 ∧ (tokF l).2.1 ≤ l.length := by
 have h0 : 0 < l.length := List.length_pos_iff.2 hl
 have hw := decodeL_width l
 have hle := decodeL_le l hl
 have hn := wordN_le' _ l (Nat.le_refl _)
 unfold tokF at h ⊢
 simp only at h ⊢
 split at h
 ·rename_i h2
  rw [if_pos h2]
  have := wordN_pos hl (.inl h2)
  split at h
  ·simp at h
  ·rename_i h3
   rw [if_neg h3]
   simp only
   omega
 ·rename_i h2
  rw [if_neg h2]
  split at h
  ·rename_i h3
   rw [if_pos h3]
   have := wordN_pos hl (.inr h3)
   split at h
   ·rename_i h4
    rw [if_pos h4]
    simp only
    omega
   ·simp at h
  ·rename_i h3
   rw [if_neg h3]
   split at h
   ·rename_i h4
    rw [if_pos h4]
    exact textF_ok h
   ·rename_i h4
    rw [if_neg h4]
    split at h
    ·rename_i h5
     rw [if_pos h5]
     simp only
     split <;> omega
    ·simp at h
end Go.Proofs.YtgcfjkfipkfijaaGreatDoor
namespace Go.Proofs
open Go.Shelf
def Tryz.lays156_ren : Go.Shelf.Ren := ⟨fun | 156 => 113 | 165 => 124 | 166 => 65 | 169 => 68 | 240 => 96 | 241 => 139 | 276 => 111 | 277 => 157 | n => n, fun | 31 => 37 | 9 => 9 | 3 => 3 | 4 => 4 | 0 => 0 | 20 => 20 | 72 => 110 | 76 => 115 | 70 => 107 | 37 => 108 | 75 => 114 | 127 => 136 | 164 => 147 | 5 => 5 | 80 => 118 | n => n, fun | n => n⟩
theorem Tryz.lays156 : Go.Proofs.Lays.n156 Tryz.prog Tryz.lays156_ren := {
 mixed := by kernel_rfl
 f156 := Tryz.func113.trans (congrArg some (by kernel_rfl))
 f165 := Tryz.func124.trans (congrArg some (by kernel_rfl))
 f166 := Tryz.func65.trans (congrArg some (by kernel_rfl))
 f169 := Tryz.func68.trans (congrArg some (by kernel_rfl))
 f240 := Tryz.func96.trans (congrArg some (by kernel_rfl))
 f241 := Tryz.func139.trans (congrArg some (by kernel_rfl))
 f276 := Tryz.func111.trans (congrArg some (by kernel_rfl))
 f277 := Tryz.func157.trans (congrArg some (by kernel_rfl))
 t0 := Tryz.underlying0
 a0 := Tryz.isAgg0
 z0 := Tryz.sizeOf0
 v0 := Tryz.zeroValue0
 t3 := Tryz.underlying3
 a3 := Tryz.isAgg3
 z3 := Tryz.sizeOf3
 v3 := Tryz.zeroValue3
 t4 := Tryz.underlying4
 a4 := Tryz.isAgg4
 z4 := Tryz.sizeOf4
 v4 := Tryz.zeroValue4
 t9 := Tryz.underlying9
 a9 := Tryz.isAgg9
 z9 := Tryz.sizeOf9
 v9 := Tryz.zeroValue9
 t20 := Tryz.underlying20
 a20 := Tryz.isAgg20
 z20 := Tryz.sizeOf20
 v20 := Tryz.zeroValue20
 t31 := Tryz.underlying37
 a31 := Tryz.isAgg37
 z31 := Tryz.sizeOf37
 v31 := Tryz.zeroValue37
 t37 := Tryz.underlying108
 a37 := Tryz.isAgg108
 z37 := Tryz.sizeOf108
 v37 := Tryz.zeroValue108
 t70 := Tryz.underlying107
 a70 := Tryz.isAgg107
 z70 := Tryz.sizeOf107
 v70 := Tryz.zeroValue107
 t72 := Tryz.underlying110
 a72 := Tryz.isAgg110
 z72 := Tryz.sizeOf110
 v72 := Tryz.zeroValue110
 t75 := Tryz.underlying114
 a75 := Tryz.isAgg114
 z75 := Tryz.sizeOf114
 v75 := Tryz.zeroValue114
 t76 := Tryz.underlying115
 a76 := Tryz.isAgg115
 z76 := Tryz.sizeOf115
 v76 := Tryz.zeroValue115
 t127 := Tryz.underlying136
 a127 := Tryz.isAgg136
 z127 := Tryz.sizeOf136
 v127 := Tryz.zeroValue136
 t164 := Tryz.underlying147
 a164 := Tryz.isAgg147
 z164 := Tryz.sizeOf147
 v164 := Tryz.zeroValue147 }
theorem Tryz.Builder_Extra_156 : Builder.Extra Tryz.prog Tryz.lays156_ren := {
 sizeBuilder := by kernel_rfl
 liesBuilder := by kernel_rfl
 t5 := Tryz.underlying5
 a5 := Tryz.isAgg5
 z5 := Tryz.sizeOf5
 v5 := Tryz.zeroValue5
 infoByte := by kernel_rfl
 cellsByte := by kernel_rfl
 sizeByte := by kernel_rfl
 neB5 := by decide }
open Go.RowKit in
theorem Tryz.strings_Join_none (a : Option Addr) (c : Nat) (sep : ByteArray) (w : World) :
  Calls Tryz.prog 113 #[.slice a 0 c, .string sep] w fun e w' => e = .returned (.string ⟨#[]⟩) ∧ w' = w := Any.strings_Join_none Tryz.lays156 Tryz.Builder_Extra_156 a c sep w
open Go.RowKit in
theorem Tryz.strings_Join (bk o c : Nat) (xs : List ByteArray) (sep : ByteArray) (w : World) (hcells : ∀ (j : Nat) x, xs[j]? = some x → w.cell? ⟨bk, o + j, none⟩ = some (.string x)) (hbk : bk < w.heap.size) (hN : xs.length ≤ 140737488355328) (hcap : xs.length ≤ c) (hlen : (Lib.join (xs.map (·.data.toList)) sep.data.toList).length ≤ 140737488355328) :
  Calls Tryz.prog 113 #[.slice (some ⟨bk, o, none⟩) xs.length c, .string sep] w fun e w' => e = .returned (.string ⟨(Lib.join (xs.map (·.data.toList)) sep.data.toList).toArray⟩) ∧ Below w.heap.size w w' := Any.strings_Join Tryz.lays156 Tryz.Builder_Extra_156 bk o c xs sep w hcells hbk hN hcap hlen
def Tryz.lays137_ren : Go.Shelf.Ren := ⟨fun | 137 => 75 | 217 => 106 | 266 => 119 | n => n, fun | 9 => 9 | 5 => 5 | 3 => 3 | n => n, fun | n => n⟩
theorem Tryz.lays137 : Go.Proofs.Lays.n137 Tryz.prog Tryz.lays137_ren := {
 mixed := by kernel_rfl
 f137 := Tryz.func75.trans (congrArg some (by kernel_rfl))
 f217 := Tryz.func106.trans (congrArg some (by kernel_rfl))
 f266 := Tryz.func119.trans (congrArg some (by kernel_rfl))
 t3 := Tryz.underlying3
 a3 := Tryz.isAgg3
 z3 := Tryz.sizeOf3
 v3 := Tryz.zeroValue3
 t5 := Tryz.underlying5
 a5 := Tryz.isAgg5
 z5 := Tryz.sizeOf5
 v5 := Tryz.zeroValue5
 t9 := Tryz.underlying9
 a9 := Tryz.isAgg9
 z9 := Tryz.sizeOf9
 v9 := Tryz.zeroValue9 }
open Go.RowKit in
theorem Tryz.strings_IndexByte (s : ByteArray) (c : Int) (w : World) :
  Calls Tryz.prog 75 #[.string s, .int .u8 c] w fun e w' => e = .returned (.int .i64 (Lib.indexByte s.data.toList c.toNat.toUInt8)) ∧ w' = w := Any.strings_IndexByte Tryz.lays137 s c w
def Tryz.lays195_ren : Go.Shelf.Ren := ⟨fun | 195 => 77 | n => n, fun | 9 => 9 | 3 => 3 | 0 => 0 | 4 => 4 | n => n, fun | n => n⟩
theorem Tryz.lays195 : Go.Proofs.Lays.n195 Tryz.prog Tryz.lays195_ren := {
 mixed := by kernel_rfl
 f195 := Tryz.func77.trans (congrArg some (by kernel_rfl))
 t0 := Tryz.underlying0
 a0 := Tryz.isAgg0
 z0 := Tryz.sizeOf0
 v0 := Tryz.zeroValue0
 t3 := Tryz.underlying3
 a3 := Tryz.isAgg3
 z3 := Tryz.sizeOf3
 v3 := Tryz.zeroValue3
 t4 := Tryz.underlying4
 a4 := Tryz.isAgg4
 z4 := Tryz.sizeOf4
 v4 := Tryz.zeroValue4
 t9 := Tryz.underlying9
 a9 := Tryz.isAgg9
 z9 := Tryz.sizeOf9
 v9 := Tryz.zeroValue9 }
open Go.RowKit in
theorem Tryz.utf8_RuneCountInString (s : ByteArray) (w : World) (hs : s.size < 9223372036854775807) :
  Calls Tryz.prog 77 #[.string s] w fun e w' => e = .returned (.int .i64 (Lib.runeCount s)) ∧ ∃ pos, w' = w.iter s pos := Any.utf8_RuneCountInString Tryz.lays195 s w hs
def Tryz.laysM171_ren : Go.Shelf.Ren := ⟨fun | 171 => 97 | 243 => 112 | 246 => 123 | 283 => 135 | 284 => 136 | 285 => 137 | 286 => 138 | 129 => 153 | 317 => 152 | 318 => 154 | 319 => 155 | 320 => 156 | 337 => 165 | 338 => 166 | n => n, fun | 3 => 3 | 9 => 9 | 2 => 2 | 4 => 4 | 171 => 170 | 0 => 0 | 53 => 141 | 37 => 108 | 5 => 5 | 173 => 173 | 212 => 179 | 51 => 180 | 20 => 20 | 213 => 181 | 46 => 155 | 232 => 189 | 233 => 190 | n => n, fun | 17 => 3 | 18 => 4 | 19 => 5 | n => n⟩
theorem Tryz.laysM171 : Go.Proofs.LaysM.n171 Tryz.prog Tryz.laysM171_ren := {
 mixed := by kernel_rfl
 f129 := Tryz.func153.trans (congrArg some (by kernel_rfl))
 f171 := Tryz.func97.trans (congrArg some (by kernel_rfl))
 f243 := Tryz.func112.trans (congrArg some (by kernel_rfl))
 f246 := Tryz.func123.trans (congrArg some (by kernel_rfl))
 f283 := Tryz.func135.trans (congrArg some (by kernel_rfl))
 f284 := Tryz.func136.trans (congrArg some (by kernel_rfl))
 f285 := Tryz.func137.trans (congrArg some (by kernel_rfl))
 f286 := Tryz.func138.trans (congrArg some (by kernel_rfl))
 f317 := Tryz.func152.trans (congrArg some (by kernel_rfl))
 f318 := Tryz.func154.trans (congrArg some (by kernel_rfl))
 f319 := Tryz.func155.trans (congrArg some (by kernel_rfl))
 f320 := Tryz.func156.trans (congrArg some (by kernel_rfl))
 f337 := Tryz.func165.trans (congrArg some (by kernel_rfl))
 f338 := Tryz.func166.trans (congrArg some (by kernel_rfl))
 t0 := Tryz.underlying0
 a0 := Tryz.isAgg0
 z0 := Tryz.sizeOf0
 v0 := Tryz.zeroValue0
 t2 := Tryz.underlying2
 a2 := Tryz.isAgg2
 z2 := Tryz.sizeOf2
 v2 := Tryz.zeroValue2
 t3 := Tryz.underlying3
 a3 := Tryz.isAgg3
 z3 := Tryz.sizeOf3
 v3 := Tryz.zeroValue3
 t4 := Tryz.underlying4
 a4 := Tryz.isAgg4
 z4 := Tryz.sizeOf4
 v4 := Tryz.zeroValue4
 t5 := Tryz.underlying5
 a5 := Tryz.isAgg5
 z5 := Tryz.sizeOf5
 v5 := Tryz.zeroValue5
 t9 := Tryz.underlying9
 a9 := Tryz.isAgg9
 z9 := Tryz.sizeOf9
 v9 := Tryz.zeroValue9
 t20 := Tryz.underlying20
 a20 := Tryz.isAgg20
 z20 := Tryz.sizeOf20
 v20 := Tryz.zeroValue20
 t37 := Tryz.underlying108
 a37 := Tryz.isAgg108
 z37 := Tryz.sizeOf108
 v37 := Tryz.zeroValue108
 t46 := Tryz.underlying155
 a46 := Tryz.isAgg155
 z46 := Tryz.sizeOf155
 v46 := Tryz.zeroValue155
 t51 := Tryz.underlying180
 a51 := Tryz.isAgg180
 z51 := Tryz.sizeOf180
 v51 := Tryz.zeroValue180
 t53 := Tryz.underlying141
 a53 := Tryz.isAgg141
 z53 := Tryz.sizeOf141
 v53 := Tryz.zeroValue141
 t171 := Tryz.underlying170
 a171 := Tryz.isAgg170
 z171 := Tryz.sizeOf170
 v171 := Tryz.zeroValue170
 t173 := Tryz.underlying173
 a173 := Tryz.isAgg173
 z173 := Tryz.sizeOf173
 v173 := Tryz.zeroValue173
 t212 := Tryz.underlying179
 a212 := Tryz.isAgg179
 z212 := Tryz.sizeOf179
 v212 := Tryz.zeroValue179
 t213 := Tryz.underlying181
 a213 := Tryz.isAgg181
 z213 := Tryz.sizeOf181
 t232 := Tryz.underlying189
 a232 := Tryz.isAgg189
 z232 := Tryz.sizeOf189
 v232 := Tryz.zeroValue189
 t233 := Tryz.underlying190
 a233 := Tryz.isAgg190
 z233 := Tryz.sizeOf190
 v233 := Tryz.zeroValue190
 g17 := by kernel_rfl
 g18 := by kernel_rfl
 g19 := by kernel_rfl
 i0 := by kernel_rfl
 i2 := by kernel_rfl
 i3 := by kernel_rfl
 i4 := by kernel_rfl
 i5 := by kernel_rfl
 i9 := by kernel_rfl
 i20 := by kernel_rfl
 i37 := by kernel_rfl
 i46 := by kernel_rfl
 i51 := by kernel_rfl
 i53 := by kernel_rfl
 i171 := by kernel_rfl
 i173 := by kernel_rfl
 i212 := by kernel_rfl
 i232 := by kernel_rfl
 i233 := by kernel_rfl
 m17 := by kernel_rfl
 m18 := by kernel_rfl
 m19 := by kernel_rfl }
open Go.RowKit Go.Sort Go.Lib in
theorem Tryz.strconv_Itoa (n : Int) (h0 : -9223372036854775808 ≤ n) (h1 : n ≤ 9223372036854775807) (w : World) (htab : Lib.TabIs Tryz.prog w "internal/strconv.uint64pow10" .u64 Lib.pow10Tab) :
  Calls Tryz.prog 97 #[.int .i64 n] w fun e w' => e = .returned (.string ⟨(Lib.itoa n).toArray⟩) ∧ ∃ k os, w' = grow (w.drewN k) os := Any.strconv_Itoa Tryz.laysM171 n h0 h1 w htab
def Tryz.lays145_ren : Go.Shelf.Ren := ⟨fun | 145 => 107 | 220 => 120 | 219 => 129 | 217 => 106 | 225 => 144 | 224 => 145 | 267 => 146 | 266 => 119 | 314 => 161 | n => n, fun | 9 => 9 | 4 => 4 | 59 => 142 | 3 => 3 | 5 => 5 | 46 => 155 | 146 => 185 | 51 => 180 | n => n, fun | 1 => 2 | n => n⟩
theorem Tryz.lays145 : Go.Proofs.Lays.n145 Tryz.prog Tryz.lays145_ren := {
 mixed := by kernel_rfl
 f145 := Tryz.func107.trans (congrArg some (by kernel_rfl))
 f217 := Tryz.func106.trans (congrArg some (by kernel_rfl))
 f219 := Tryz.func129.trans (congrArg some (by kernel_rfl))
 f220 := Tryz.func120.trans (congrArg some (by kernel_rfl))
 f224 := Tryz.func145.trans (congrArg some (by kernel_rfl))
 f225 := Tryz.func144.trans (congrArg some (by kernel_rfl))
 f266 := Tryz.func119.trans (congrArg some (by kernel_rfl))
 f267 := Tryz.func146.trans (congrArg some (by kernel_rfl))
 f314 := Tryz.func161.trans (congrArg some (by kernel_rfl))
 t3 := Tryz.underlying3
 a3 := Tryz.isAgg3
 z3 := Tryz.sizeOf3
 v3 := Tryz.zeroValue3
 t4 := Tryz.underlying4
 a4 := Tryz.isAgg4
 z4 := Tryz.sizeOf4
 v4 := Tryz.zeroValue4
 t5 := Tryz.underlying5
 a5 := Tryz.isAgg5
 z5 := Tryz.sizeOf5
 v5 := Tryz.zeroValue5
 t9 := Tryz.underlying9
 a9 := Tryz.isAgg9
 z9 := Tryz.sizeOf9
 v9 := Tryz.zeroValue9
 t46 := Tryz.underlying155
 a46 := Tryz.isAgg155
 z46 := Tryz.sizeOf155
 v46 := Tryz.zeroValue155
 t51 := Tryz.underlying180
 a51 := Tryz.isAgg180
 z51 := Tryz.sizeOf180
 v51 := Tryz.zeroValue180
 t59 := Tryz.underlying142
 a59 := Tryz.isAgg142
 z59 := Tryz.sizeOf142
 v59 := Tryz.zeroValue142
 t146 := Tryz.underlying185
 a146 := Tryz.isAgg185
 z146 := Tryz.sizeOf185
 v146 := Tryz.zeroValue185
 g1 := by kernel_rfl }
open Go.RowKit Go.Lib in
theorem Tryz.strings_Cut (s sep : ByteArray) (m : Int) (w : World) (hs : s.size < 4294967281) (hm : w.cell? ⟨2, 0, none⟩ = some (.int .i64 m)) :
  Calls Tryz.prog 107 #[.string s, .string sep] w fun e w' => e = .returned (.tuple #[.string ⟨(Lib.cut s.data.toList sep.data.toList).1.toArray⟩, .string ⟨(Lib.cut s.data.toList sep.data.toList).2.1.toArray⟩, .bool (Lib.cut s.data.toList sep.data.toList).2.2]) ∧ ∃ n, w' = w.drewN n := Any.strings_Cut Tryz.lays145 s sep m w hs hm
def Tryz.laysM219_ren : Go.Shelf.Ren := ⟨fun | 219 => 129 | 217 => 106 | 225 => 144 | 224 => 145 | 267 => 146 | 266 => 119 | 314 => 161 | n => n, fun | 9 => 9 | 3 => 3 | 4 => 4 | 5 => 5 | 46 => 155 | 146 => 185 | 51 => 180 | n => n, fun | 1 => 2 | n => n⟩
theorem Tryz.laysM219 : Go.Proofs.LaysM.n219 Tryz.prog Tryz.laysM219_ren := {
 mixed := by kernel_rfl
 f217 := Tryz.func106.trans (congrArg some (by kernel_rfl))
 f219 := Tryz.func129.trans (congrArg some (by kernel_rfl))
 f224 := Tryz.func145.trans (congrArg some (by kernel_rfl))
 f225 := Tryz.func144.trans (congrArg some (by kernel_rfl))
 f266 := Tryz.func119.trans (congrArg some (by kernel_rfl))
 f267 := Tryz.func146.trans (congrArg some (by kernel_rfl))
 f314 := Tryz.func161.trans (congrArg some (by kernel_rfl))
 t3 := Tryz.underlying3
 a3 := Tryz.isAgg3
 z3 := Tryz.sizeOf3
 v3 := Tryz.zeroValue3
 t4 := Tryz.underlying4
 a4 := Tryz.isAgg4
 z4 := Tryz.sizeOf4
 v4 := Tryz.zeroValue4
 t5 := Tryz.underlying5
 a5 := Tryz.isAgg5
 z5 := Tryz.sizeOf5
 v5 := Tryz.zeroValue5
 t9 := Tryz.underlying9
 a9 := Tryz.isAgg9
 z9 := Tryz.sizeOf9
 v9 := Tryz.zeroValue9
 t46 := Tryz.underlying155
 a46 := Tryz.isAgg155
 z46 := Tryz.sizeOf155
 v46 := Tryz.zeroValue155
 t51 := Tryz.underlying180
 a51 := Tryz.isAgg180
 z51 := Tryz.sizeOf180
 v51 := Tryz.zeroValue180
 t146 := Tryz.underlying185
 a146 := Tryz.isAgg185
 z146 := Tryz.sizeOf185
 v146 := Tryz.zeroValue185
 g1 := by kernel_rfl
 i3 := by kernel_rfl
 i4 := by kernel_rfl
 i5 := by kernel_rfl
 i9 := by kernel_rfl
 i46 := by kernel_rfl
 i51 := by kernel_rfl
 i146 := by kernel_rfl
 m1 := by kernel_rfl
 s1_3 := fun w h => Go.Proofs.cell_of_shapedOpen_int (zero := #[.int .i64 0]) (t := 3) h (of_decide_eq_true (by kernel_rfl)) (by kernel_rfl) rfl (by kernel_rfl) (by kernel_rfl) Tryz.underlying3 }
def Tryz.lays260_ren : Go.Shelf.Ren := ⟨fun | 260 => 105 | n => n, fun | 9 => 9 | 21 => 21 | 3 => 3 | 4 => 4 | 5 => 5 | 119 => 154 | 0 => 0 | 46 => 155 | 139 => 158 | 138 => 157 | n => n, fun | 3 => 0 | 4 => 1 | n => n⟩
theorem Tryz.lays260 : Go.Proofs.Lays.n260 Tryz.prog Tryz.lays260_ren := {
 mixed := by kernel_rfl
 f260 := Tryz.func105.trans (congrArg some (by kernel_rfl))
 t0 := Tryz.underlying0
 a0 := Tryz.isAgg0
 z0 := Tryz.sizeOf0
 v0 := Tryz.zeroValue0
 t3 := Tryz.underlying3
 a3 := Tryz.isAgg3
 z3 := Tryz.sizeOf3
 v3 := Tryz.zeroValue3
 t4 := Tryz.underlying4
 a4 := Tryz.isAgg4
 z4 := Tryz.sizeOf4
 v4 := Tryz.zeroValue4
 t5 := Tryz.underlying5
 a5 := Tryz.isAgg5
 z5 := Tryz.sizeOf5
 v5 := Tryz.zeroValue5
 t9 := Tryz.underlying9
 a9 := Tryz.isAgg9
 z9 := Tryz.sizeOf9
 v9 := Tryz.zeroValue9
 t21 := Tryz.underlying21
 a21 := Tryz.isAgg21
 z21 := Tryz.sizeOf21
 v21 := Tryz.zeroValue21
 t46 := Tryz.underlying155
 a46 := Tryz.isAgg155
 z46 := Tryz.sizeOf155
 v46 := Tryz.zeroValue155
 t119 := Tryz.underlying154
 a119 := Tryz.isAgg154
 z119 := Tryz.sizeOf154
 t138 := Tryz.underlying157
 a138 := Tryz.isAgg157
 z138 := Tryz.sizeOf157
 v138 := Tryz.zeroValue157
 t139 := Tryz.underlying158
 a139 := Tryz.isAgg158
 z139 := Tryz.sizeOf158
 v139 := Tryz.zeroValue158
 g3 := by kernel_rfl
 g4 := by kernel_rfl }
def Tryz.lays197_ren : Go.Shelf.Ren := ⟨fun | 197 => 73 | 260 => 105 | n => n, fun | 9 => 9 | 21 => 21 | 3 => 3 | 4 => 4 | 5 => 5 | 105 => 121 | 119 => 154 | 0 => 0 | 46 => 155 | 139 => 158 | 138 => 157 | n => n, fun | 3 => 0 | 4 => 1 | n => n⟩
theorem Tryz.lays197 : Go.Proofs.Lays.n197 Tryz.prog Tryz.lays197_ren := {
 mixed := by kernel_rfl
 f197 := Tryz.func73.trans (congrArg some (by kernel_rfl))
 f260 := Tryz.func105.trans (congrArg some (by kernel_rfl))
 t0 := Tryz.underlying0
 a0 := Tryz.isAgg0
 z0 := Tryz.sizeOf0
 v0 := Tryz.zeroValue0
 t3 := Tryz.underlying3
 a3 := Tryz.isAgg3
 z3 := Tryz.sizeOf3
 v3 := Tryz.zeroValue3
 t4 := Tryz.underlying4
 a4 := Tryz.isAgg4
 z4 := Tryz.sizeOf4
 v4 := Tryz.zeroValue4
 t5 := Tryz.underlying5
 a5 := Tryz.isAgg5
 z5 := Tryz.sizeOf5
 v5 := Tryz.zeroValue5
 t9 := Tryz.underlying9
 a9 := Tryz.isAgg9
 z9 := Tryz.sizeOf9
 v9 := Tryz.zeroValue9
 t21 := Tryz.underlying21
 a21 := Tryz.isAgg21
 z21 := Tryz.sizeOf21
 v21 := Tryz.zeroValue21
 t46 := Tryz.underlying155
 a46 := Tryz.isAgg155
 z46 := Tryz.sizeOf155
 v46 := Tryz.zeroValue155
 t105 := Tryz.underlying121
 a105 := Tryz.isAgg121
 z105 := Tryz.sizeOf121
 v105 := Tryz.zeroValue121
 t119 := Tryz.underlying154
 a119 := Tryz.isAgg154
 z119 := Tryz.sizeOf154
 t138 := Tryz.underlying157
 a138 := Tryz.isAgg157
 z138 := Tryz.sizeOf157
 v138 := Tryz.zeroValue157
 t139 := Tryz.underlying158
 a139 := Tryz.isAgg158
 z139 := Tryz.sizeOf158
 v139 := Tryz.zeroValue158
 g3 := by kernel_rfl
 g4 := by kernel_rfl }
open Go.RowKit Go.Lib in
theorem Tryz.utf8_DecodeRuneInString (s : ByteArray) (w : World) (hT : Lib.Utf8Tabs 0 1 w) :
  Calls Tryz.prog 73 #[.string s] w fun e w' => e = .returned (.tuple #[.int .i32 (Lib.decodeGo s).1, .int .i64 (Lib.decodeGo s).2]) ∧ Below w.heap.size w w' := Any.utf8_DecodeRuneInString Tryz.lays197 s w hT
def Tryz.lays110_ren : Go.Shelf.Ren := ⟨fun | 110 => 53 | 109 => 81 | n => n, fun | 31 => 37 | 9 => 9 | 4 => 4 | 3 => 3 | 0 => 0 | n => n, fun | n => n⟩
theorem Tryz.lays110 : Go.Proofs.Lays.n110 Tryz.prog Tryz.lays110_ren := {
 mixed := by kernel_rfl
 f109 := Tryz.func81.trans (congrArg some (by kernel_rfl))
 f110 := Tryz.func53.trans (congrArg some (by kernel_rfl))
 t0 := Tryz.underlying0
 a0 := Tryz.isAgg0
 z0 := Tryz.sizeOf0
 v0 := Tryz.zeroValue0
 t3 := Tryz.underlying3
 a3 := Tryz.isAgg3
 z3 := Tryz.sizeOf3
 v3 := Tryz.zeroValue3
 t4 := Tryz.underlying4
 a4 := Tryz.isAgg4
 z4 := Tryz.sizeOf4
 v4 := Tryz.zeroValue4
 t9 := Tryz.underlying9
 a9 := Tryz.isAgg9
 z9 := Tryz.sizeOf9
 v9 := Tryz.zeroValue9
 t31 := Tryz.underlying37
 a31 := Tryz.isAgg37
 z31 := Tryz.sizeOf37
 v31 := Tryz.zeroValue37 }
open Go.Lib in
theorem Tryz.slices_Contains_string (b off n c : Nat) (zs : List ByteArray) (x : ByteArray) (w : World) (hz : n ≤ zs.length) (hbig : n ≤ 9223372036854775807) (hc : ∀ j, j < zs.length → w.cell? ⟨b, off + j, none⟩ = some (.string (zs.getD j ByteArray.empty))) :
  Calls Tryz.prog 53 #[.slice (some ⟨b, off, none⟩) n c, .string x] w fun e w' => e = .returned (.bool (Lib.containsS (zs.take n) x)) ∧ w' = w := Any.slices_Contains_string Tryz.lays110 b off n c zs x w hz hbig hc
open Go.Lib in
theorem Tryz.slices_Contains_string_empty (a : Option Addr) (c : Nat) (x : ByteArray) (w : World) :
  Calls Tryz.prog 53 #[.slice a 0 c, .string x] w fun e w' => e = .returned (.bool false) ∧ w' = w := Any.slices_Contains_string_empty Tryz.lays110 a c x w
def Tryz.laysValid_ren : Go.Shelf.Ren := ⟨fun | 196 => 170 | 259 => 174 | n => n, fun | 9 => 9 | 4 => 4 | 3 => 3 | 5 => 5 | 12 => 12 | 119 => 154 | 0 => 0 | 46 => 155 | 139 => 158 | 138 => 157 | 53 => 141 | n => n, fun | 3 => 0 | 4 => 1 | n => n⟩
theorem Tryz.laysValid : Go.Proofs.Lays.n196 Tryz.prog Tryz.laysValid_ren := {
 mixed := by kernel_rfl
 f196 := Tryz.func170.trans (congrArg some (by kernel_rfl))
 f259 := Tryz.func174.trans (congrArg some (by kernel_rfl))
 t0 := Tryz.underlying0
 a0 := Tryz.isAgg0
 z0 := Tryz.sizeOf0
 v0 := Tryz.zeroValue0
 t3 := Tryz.underlying3
 a3 := Tryz.isAgg3
 z3 := Tryz.sizeOf3
 v3 := Tryz.zeroValue3
 t4 := Tryz.underlying4
 a4 := Tryz.isAgg4
 z4 := Tryz.sizeOf4
 v4 := Tryz.zeroValue4
 t5 := Tryz.underlying5
 a5 := Tryz.isAgg5
 z5 := Tryz.sizeOf5
 v5 := Tryz.zeroValue5
 t9 := Tryz.underlying9
 a9 := Tryz.isAgg9
 z9 := Tryz.sizeOf9
 v9 := Tryz.zeroValue9
 t12 := Tryz.underlying12
 a12 := Tryz.isAgg12
 z12 := Tryz.sizeOf12
 v12 := Tryz.zeroValue12
 t46 := Tryz.underlying155
 a46 := Tryz.isAgg155
 z46 := Tryz.sizeOf155
 v46 := Tryz.zeroValue155
 t53 := Tryz.underlying141
 a53 := Tryz.isAgg141
 z53 := Tryz.sizeOf141
 v53 := Tryz.zeroValue141
 t119 := Tryz.underlying154
 a119 := Tryz.isAgg154
 z119 := Tryz.sizeOf154
 t138 := Tryz.underlying157
 a138 := Tryz.isAgg157
 z138 := Tryz.sizeOf157
 v138 := Tryz.zeroValue157
 t139 := Tryz.underlying158
 a139 := Tryz.isAgg158
 z139 := Tryz.sizeOf158
 v139 := Tryz.zeroValue158
 g3 := by kernel_rfl
 g4 := by kernel_rfl }
open Go.RowKit Go.Lib in
theorem Tryz.utf8_ValidString (s : ByteArray) (w : World) (hs : s.size ≤ 9223372036854775807) (hT : Lib.Utf8Tabs 0 1 w) :
  Calls Tryz.prog 170 #[.string s] w fun e w' => e = .returned (.bool (Lib.validD s.data.toList)) ∧ Below w.heap.size w w' := Any.utf8_ValidString Tryz.laysValid s w hs hT
end Go.Proofs
namespace Go.Proofs.YtgcfjkfipkfijaaGreatDoor
open Go Go.RowKit
def seq (a b : ByteArray) : Bool := a.data.toList == b.data.toList
theorem seq_iff {a b : ByteArray} : seq a b = true ↔ a = b := by
 unfold seq
 rw [beq_iff_eq]
 exact ⟨fun h => ByteArray.ext (Array.toList_inj.1 h), fun h => by rw [h]⟩
def eLine (op : Int) : Int := if op = 16 then 1 else if op = 15 then 2 else if 9 ≤ op ∧ op ≤ 14 then 3 else if op = 4 ∨ op = 5 then 4 else if 6 ≤ op ∧ op ≤ 8 then 5 else 6
def bytes (l : List UInt8) : ByteArray := ⟨l.toArray⟩
def eSign (op : Int) : ByteArray :=
 bytes (if op = 2 ∨ op = 5 then [45] else if op = 3 then [33] else if op = 4 then [43] else if op = 6 then [42] else if op = 7 then [47] else if op = 8 then [37] else
  if op = 9 then [60] else if op = 10 then [60, 61] else if op = 11 then [62] else if op = 12 then [62, 61] else if op = 13 then [61, 61] else if op = 14 then [33, 61] else if op = 15 then [38] else [124])
abbrev Fits (n : Int) : Prop := -9223372036854775808 ≤ n ∧ n ≤ 9223372036854775807
end Go.Proofs.YtgcfjkfipkfijaaGreatDoor
namespace Go.Proofs.YtgcfjkfipkfijaaGreatDoor
open Go Go.RowKit Go.Lib
inductive ExOk : Ex → Prop where
 | mk {op n : Int} {nm : ByteArray} {ks : List Ex} (h1 : Fits op) (h2 : Fits n) (h3 : nm.size ≤ 140737488355328) (h4 : ∀ k, k ∈ ks → ExOk k) : ExOk (.mk op n nm ks)
theorem ExOk.n {e : Ex} (h : ExOk e) : Fits e.n := by cases h; assumption
theorem ExOk.name {e : Ex} (h : ExOk e) : e.name.size ≤ 140737488355328 := by cases h; assumption
theorem ExOk.kids {e : Ex} (h : ExOk e) : ∀ k, k ∈ e.kids → ExOk k := by cases h; assumption
theorem ExOk.kid {e : Ex} (h : ExOk e) (i : Nat) (hi : i < e.kids.length) : ExOk e.kids[i] := h.kids _ (List.getElem_mem hi)
theorem sizeOf_kid {e : Ex} (i : Nat) (hi : i < e.kids.length) : SizeOf.sizeOf e.kids[i] < SizeOf.sizeOf e := by
 cases e with
 | mk o n nm ks =>
  have h1 : SizeOf.sizeOf ks[i] < SizeOf.sizeOf ks := List.sizeOf_lt_of_mem (List.getElem_mem hi)
  show SizeOf.sizeOf ks[i] < SizeOf.sizeOf (Ex.mk o n nm ks)
  simp
  omega
def eWrapped (op kop : Int) (i : Int) : Bool := decide (eLine kop < eLine op) || (eLine kop == eLine op && decide (eLine op < 6) && (i == 1 || eLine op == 3))
def eParts (op : Int) : Nat := if op = 2 ∨ op = 3 then 1 else 2
mutual
def eTok : Ex → Int → Int
 | .mk op n nm ks, most =>
  if op = 0 ∨ op = 1 then (if 0 < ks.length ∨ op = 0 ∧ (n < 0 ∨ nm.size ≠ 0) ∨ op = 1 ∧ (n ≠ 0 ∨ nameB nm = false) then -1 else 1)
  else if op < 0 ∨ 16 < op ∨ n ≠ 0 ∨ nm.size ≠ 0 ∨ ks.length ≠ eParts op ∨ most < 1 then -1
  else eToks op ks 0 1 most
def eToks (op : Int) : List Ex → Int → Int → Int → Int
 | [], _, n, _ => n
 | k :: ks, i, n, most =>
  if eTok k (most - n) < 0 then -1
  else if most < n + eTok k (most - n) + (if eWrapped op k.op i then 2 else 0) then -1
  else eToks op ks (i + 1) (n + eTok k (most - n) + (if eWrapped op k.op i then 2 else 0)) most
end
def eMay (e : Ex) : Bool := decide (0 < eTok e 64) && decide (eTok e 64 ≤ 64)
theorem eToks_le : ∀ (ks : List Ex) (op i n most : Int), n ≤ most ∨ n = -1 → eToks op ks i n most ≤ most ∨ eToks op ks i n most = -1
 | [], _, _, _, _, h => by simp only [eToks]; exact h
 | k :: ks, op, i, n, most, h => by
  simp only [eToks]
  have hx : (0 : Int) ≤ (if eWrapped op k.op i = true then 2 else 0) := by split <;> omega
  generalize (if eWrapped op k.op i = true then (2 : Int) else 0) = x at hx ⊢
  split
  ·exact .inr rfl
  ·split
   ·exact .inr rfl
   ·exact eToks_le ks op _ _ _ (.inl (by omega))
theorem eTok_le (e : Ex) (most : Int) : eTok e most ≤ most ∨ eTok e most ≤ 1 := by
 cases e with
 | mk o n nm ks =>
  simp only [eTok]
  split
  ·split <;> right <;> decide
  ·split
   ·right; decide
   ·rename_i h
    rcases eToks_le ks o 0 1 most (.inl (by omega)) with h | h <;> omega
theorem eToks_ge : ∀ (ks : List Ex) (op i n most : Int), -1 ≤ n → -1 ≤ eToks op ks i n most
 | [], _, _, _, _, h => by simp only [eToks]; exact h
 | k :: ks, op, i, n, most, h => by
  simp only [eToks]
  have hx : (0 : Int) ≤ (if eWrapped op k.op i = true then 2 else 0) := by split <;> omega
  generalize (if eWrapped op k.op i = true then (2 : Int) else 0) = x at hx ⊢
  split
  ·omega
  ·split
   ·omega
   ·exact eToks_ge ks op _ _ _ (by omega)
theorem eTok_ge (e : Ex) (most : Int) : -1 ≤ eTok e most := by
 cases e with
 | mk o n nm ks =>
  simp only [eTok]
  split
  ·split <;> decide
  ·split
   ·omega
   ·exact eToks_ge _ _ _ _ _ (by omega)
end Go.Proofs.YtgcfjkfipkfijaaGreatDoor
namespace Go.Proofs.YtgcfjkfipkfijaaGreatDoor
open Go Go.RowKit Go.Lib
structure St where
 at_ : Int
 bad : Int
def tokAt (l : List Tok) (i : Int) : Tok := if i < 0 ∨ (l.length : Int) ≤ i then zTok else l.getD i.toNat zTok
def zEx : Ex := .mk 0 0 ⟨#[]⟩ []
def failP (e : Int) (s : St) : St := if s.bad = 0 then ⟨s.at_, e⟩ else s
def passP (first : Int) (s : St) : Bool × St := if 64 ≤ s.at_ - first then (false, failP 2 s) else (true, ⟨s.at_ + 1, s.bad⟩)
def isF (t : Tok) (bad : Int) : Nat → Int → Option Int
 | 0, _ => none
 | n + 1, op => if t.kind = 4 ∧ bad = 0 then (if seq (eSign op) t.text then some op else isF t bad n (op + 1)) else none
def isP (l : List Tok) (a b : Int) (s : St) : Option Int := isF (tokAt l s.at_) s.bad (b - a + 1).toNat a
def node1 (op : Int) (e : Ex) : Ex := .mk op 0 ⟨#[]⟩ [e]
def node2 (op : Int) (e r : Ex) : Ex := .mk op 0 ⟨#[]⟩ [e, r]
def rowF (l : List Tok) (first a b : Int) (below : St → Ex × St) : Nat → Ex → St → Ex × St
 | 0, e, s => (e, s)
 | n + 1, e, s =>
  match isP l a b s with
  | none => (e, s)
  | some op =>
   if (passP first s).1 = false then (e, (passP first s).2)
   else rowF l first a b below n (node2 op e (below (passP first s).2).1) (below (passP first s).2).2
def rowP (l : List Tok) (first a b : Int) (below : St → Ex × St) (s : St) : Ex × St := rowF l first a b below 66 (below s).1 (below s).2
def cmpP (l : List Tok) (first : Int) (sum : St → Ex × St) (s : St) : Ex × St :=
 match isP l 9 14 (sum s).2 with
 | none => sum s
 | some op =>
  if (passP first (sum s).2).1 = false then ((sum s).1, (passP first (sum s).2).2)
  else (node2 op (sum s).1 (sum (passP first (sum s).2).2).1, (sum (passP first (sum s).2).2).2)
def orOf (l : List Tok) (first : Int) (un : St → Ex × St) : St → Ex × St :=
 rowP l first 16 16 (rowP l first 15 15 (cmpP l first (rowP l first 4 5 (rowP l first 6 8 un))))
def isOpen (t : Tok) : Bool := t.kind == 4 && seq t.text ⟨#[40]⟩
def isShut (t : Tok) : Bool := t.kind == 4 && seq t.text ⟨#[41]⟩
def unS (l : List Tok) (first : Int) (un orr : St → Ex × St) (s : St) : Ex × St :=
 match isP l 2 3 s with
 | some op =>
  if (passP first s).1 = false then (zEx, (passP first s).2)
  else (node1 op (un (passP first s).2).1, (un (passP first s).2).2)
 | none =>
  if s.bad ≠ 0 ∨ isOpen (tokAt l s.at_) = false ∧ (tokAt l s.at_).kind ≠ 2 ∧ (tokAt l s.at_).kind ≠ 1 then (zEx, failP 11 s)
  else if (passP first s).1 = false then (zEx, (passP first s).2)
  else if (tokAt l s.at_).kind = 2 then (.mk 0 (tokAt l s.at_).n ⟨#[]⟩ [], (passP first s).2)
  else if (tokAt l s.at_).kind = 1 then (.mk 1 0 (tokAt l s.at_).text [], (passP first s).2)
  else
   if (orr (passP first s).2).2.bad = 0 ∧ isShut (tokAt l (orr (passP first s).2).2.at_) = false then (zEx, failP 11 (orr (passP first s).2).2)
   else if (orr (passP first s).2).2.bad = 0 then ((orr (passP first s).2).1, (passP first (orr (passP first s).2).2).2)
   else orr (passP first s).2
def unP (l : List Tok) (first : Int) : Nat → St → Ex × St
 | 0 => fun s => (zEx, s)
 | f + 1 => unS l first (unP l first f) (orOf l first (unP l first f))
def takeP (l : List Tok) (a : Int) : Ex × Int × Int :=
 let p := orOf l a (unP l a 66) ⟨a, 0⟩
 if p.2.bad ≠ 0 then (zEx, p.2.bad, p.2.at_) else (p.1, 0, p.2.at_)
end Go.Proofs.YtgcfjkfipkfijaaGreatDoor
namespace Go.Proofs.YtgcfjkfipkfijaaGreatDoor
open Go Go.RowKit
theorem ret_int {k : IntKind} {a b : Int} (h : a = b) : Ending.returned (.int k a) = .returned (.int k b) := by rw [h]
theorem ret_str {a b : ByteArray} (h : a = b) : Ending.returned (.string a) = .returned (.string b) := by rw [h]
set_option maxHeartbeats 400000 in
theorem line_any (op : Int) (w : World) : Calls Tryz.prog 172 #[.int .i64 op] w fun e w' => e = .returned (.int .i64 (eLine op)) ∧ w = w' := by
 go_enter Tryz.func172, Tryz.ntmps172
 go_wp2
 all_goals
  go_ret
  refine ⟨ret_int ?_, rfl⟩
  simp only [beq_iff_eq, beq_eq_false_iff_ne, ne_eq] at *
  unfold eLine
  (repeat (first | rw [if_pos (by omega)] | rw [if_neg (by omega)]))
set_option maxHeartbeats 400000 in
theorem sign_any (op : Int) (w : World) : Calls Tryz.prog 159 #[.int .i64 op] w fun e w' => e = .returned (.string (eSign op)) ∧ w = w' := by
 go_enter Tryz.func159, Tryz.ntmps159
 go_wp2
 all_goals
  go_ret
  refine ⟨ret_str ?_, rfl⟩
  simp only [beq_iff_eq, beq_eq_false_iff_ne, ne_eq] at *
  unfold eSign
  (repeat (first | rw [if_pos (by omega)] | rw [if_neg (by omega)]))
  all_goals rfl
end Go.Proofs.YtgcfjkfipkfijaaGreatDoor
namespace Go.Proofs.YtgcfjkfipkfijaaGreatDoor
open Go Go.RowKit Go.Lib
theorem ret_cls {a b : Int} (h : a = b) : Ending.returned (.int .i64 a) = .returned (.int .i64 b) := by rw [h]
set_option maxHeartbeats 1000000 in
theorem class_any (r : Int) (w : World) (h0 : -2147483648 ≤ r) (h1 : r ≤ 2147483647) : Calls Tryz.prog 74 #[.int .i32 r] w fun e w' => e = .returned (.int .i64 (cls r)) ∧ w = w' := by
 by_cases hs : 32 < r ∧ r < 127
 ·obtain ⟨hs1, hs2⟩ := hs
  have hc := Lib.hid (fun w => Tryz.strings_IndexByte ⟨#[40, 41, 123, 125, 44, 59, 58, 61, 43, 45, 42, 47, 37, 60, 62, 33, 38, 124]⟩ r w)
  obtain ⟨x, hx⟩ : ∃ x, Lib.indexByte signs r.toNat.toUInt8 = x := ⟨_, rfl⟩
  have hX : Hid (Lib.indexByte signs r.toNat.toUInt8 = x) := hx
  have hc' : Hid (∀ w : World, Calls Tryz.prog 75 #[.string ⟨#[40, 41, 123, 125, 44, 59, 58, 61, 43, 45, 42, 47, 37, 60, 62, 33, 38, 124]⟩, .int .u8 r] w fun e w' => e = .returned (.int .i64 x) ∧ w' = w) := by
   subst hx
   exact hc.out
  clear hc hx
  go_enter Tryz.func74, Tryz.ntmps74
  go_wp2_with (go_at_call 75; refine (hc'.out _).mono ?_; rintro e w' ⟨rfl, rfl⟩)
  all_goals
   go_ret
   refine ⟨ret_cls ?_, rfl⟩
   simp only [beq_iff_eq, beq_eq_false_iff_ne, ne_eq] at *
   unfold cls
   rw [hX.out]
   (repeat (first | rw [if_pos (by omega)] | rw [if_neg (by omega)]))
 ·have hs' : r ≤ 32 ∨ 127 ≤ r := by omega
  clear hs
  go_enter Tryz.func74, Tryz.ntmps74
  go_wp2_with fail
  all_goals (first | (exfalso; omega) | skip)
  all_goals
   go_ret
   refine ⟨ret_cls ?_, rfl⟩
   simp only [beq_iff_eq, beq_eq_false_iff_ne, ne_eq, bne_iff_ne, bne_eq_false_iff_eq] at *
   unfold cls
   (repeat (first | rw [if_pos (by omega)] | rw [if_neg (by omega)]))
end Go.Proofs.YtgcfjkfipkfijaaGreatDoor
namespace Go.Proofs.YtgcfjkfipkfijaaGreatDoor
open Go Go.RowKit
def gTop : Nat := 5 + 1
structure Tabs (w : World) : Prop where
 utf : Lib.Utf8Tabs 0 1 w
 len : ∃ m, w.cell? ⟨2, 0, none⟩ = some (.int .i64 m)
 pow : Lib.TabIs Tryz.prog w "internal/strconv.uint64pow10" .u64 Lib.pow10Tab
 size : gTop ≤ w.heap.size
theorem pow_global : Tryz.prog.globalNamed "internal/strconv.uint64pow10" = some 3 := by kernel_rfl
theorem Tabs.keep {M : List Nat} {w w' : World} (h : Tabs w) (s : Same M w w') (hm : ∀ k, k ∈ M → gTop ≤ k) : Tabs w' := by
 have hb : ∀ k, k < gTop → w'.heap[k]? = w.heap[k]? := fun k hk => s.block k (Nat.lt_of_lt_of_le hk h.size) (fun hc => by have := hm k hc; omega)
 have hc : ∀ (p : Addr) (v : Value), p.block < gTop → w.cell? p = some v → w'.cell? p = some v := fun p v hp hv => (World.cell?_of_block (w := w) (hb p.block hp)).trans hv
 refine ⟨⟨fun c hc' => hc _ _ (by simp [gTop]) (h.utf.1 c hc'), fun i hi => ⟨hc _ _ (by simp [gTop]) (h.utf.2 i hi).1, hc _ _ (by simp [gTop]) (h.utf.2 i hi).2⟩⟩, ?_, ?_, Nat.le_trans h.size s.size⟩
 ·obtain ⟨m, hm'⟩ := h.len
  exact ⟨m, hc _ _ (by simp [gTop]) hm'⟩
 ·have := h.pow
  unfold Lib.TabIs World.var? at this ⊢
  rw [pow_global] at this ⊢
  simp only [Option.bind_some] at this ⊢
  rw [hb _ (by simp [gTop])]
  exact this
theorem Tabs.below {w w' : World} (h : Tabs w) (b : Below w.heap.size w w') : Tabs w' := h.keep (M := []) (Same.of_below b) (fun _ hk => by simp at hk)
theorem Tabs.alloc {w : World} (h : Tabs w) (o : Obj) : Tabs (w.alloc o) := h.keep (M := []) ((Same.refl [] w).alloc o) (fun _ hk => by simp at hk)
end Go.Proofs.YtgcfjkfipkfijaaGreatDoor
