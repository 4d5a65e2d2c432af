/- Part 1 of the proof of ragain_card; no conditions. -/
import Derived.Below
import Derived.Laws.OwnMore
import Derived.Deep.Draws
import Derived.WalkKit
import Derived.Lib.TrimUEq
import Derived.Lib.MapLaws
import Derived.Lib.ValidLaws
import Derived.Lib.RuneCount
import Derived.Lib.IndexMore
import Derived.Shelf.Strings.Builder1
import Derived.Shelf.Strings.Builder2
import Derived.Shelf.Strings.OnBuilder
import Derived.Shelf.Small.Strs
import Derived.Shelf.Strings.BuilderF
import Derived.Shelf.Strings.BuilderK
import Derived.Shelf.Utf8.RuneCount
import Derived.Shelf.Strconv.Itoa0
import Derived.Shelf.Strconv.Itoa1
import Derived.Shelf.LaysM
import Derived.Shelf.Strconv.Itoa2
import Derived.Shelf.Strconv.Itoa3
import Derived.Shelf.Strings.Search1
import Derived.Shelf.Strings.Search2
import Derived.Shelf.Strings.Cut
import Derived.Shelf.Strings.Shaped
import Derived.Shelf.Unicode.DecodeSlow
import Derived.Shelf.Unicode.DecodeAny
import Derived.Shelf.Slices.Turned
import Derived.Shelf.Slices.Equal
import Derived.Shelf.Slices.Empties2
import Derived.Shelf.Unicode.ValidAny
import Derived.Test.YtgcfjkfipkfijaaGreatDoorProg
import Derived.Tactics
import Derived.KernelRfl
import Derived.LoopTactic
import Derived.Deep.QuietTactic
import Derived.BigQuiet
import Derived.Outline
import Derived.Lib.Hide
import Derived.Laws.RangeString
import Derived.Laws.RangeAny
import Derived.RowKit3
set_option maxHeartbeats 1000000
namespace Go.Proofs.YtgcfjkfipkfijaaGreatDoor
open Go Go.RowKit Go.Lib
theorem alo_ (w : World) (o : Obj) : ∃ x, w.alloc o = x ∧ Below w.heap.size w x ∧ x.heap[w.heap.size]? = some o := ⟨_, rfl, (Below.refl _ _).alloc (Nat.le_refl _) _, heap_alloc_new _ _⟩
theorem tm_ {w a b : World} (h : Hid (Below w.heap.size w a)) (k : Below a.heap.size a b) : Hid (Below w.heap.size w b) := h.out.trans (k.mono h.out.size)
theorem bp_ {a b : World} {k : Nat} {o : Obj} (h : Below a.heap.size a b) (H : a.heap[k]? = some o) : b.heap[k]? = some o := (h.block k (Array.getElem?_eq_some_iff.1 H).1).trans H
theorem bl_ {a b : World} {k : Nat} {o : Obj} (h : Below a.heap.size a b) (H : Hid (a.heap[k]? = some o)) : Hid (b.heap[k]? = some o) := bp_ h H.out
theorem nm_.{u} {α : Sort u} (a : α) : ∃ b, a = b := ⟨_, rfl⟩
theorem hj_ {p q : Prop} (a : p) (b : q) : Hid (p ∧ q) := ⟨a, b⟩
theorem hk_ {p q r : Prop} (a : p) (b : q) (c : r) : Hid (p ∧ q ∧ r) := ⟨a, b, c⟩
theorem hl_ {p q r s : Prop} (a : p) (b : q) (c : r) (d : s) : Hid (p ∧ q ∧ r ∧ s) := ⟨a, b, c, d⟩
theorem hm_ {p q r s t : Prop} (a : p) (b : q) (c : r) (d : s) (e : t) : Hid (p ∧ q ∧ r ∧ s ∧ t) := ⟨a, b, c, d, e⟩
theorem pk_ (n k : Nat) (h : k ≤ n) : ∃ m, n = m + k := ⟨n - k, by omega⟩
theorem le_ {n : Nat} : n ≤ n := Nat.le_refl n
theorem A_ {α : Type _} [BEq α] [LawfulBEq α] {a b : α} (h : a ≠ b) : (a == b) = false := beq_eq_false_iff_ne.2 h
theorem B_ {α : Type _} [BEq α] [LawfulBEq α] {a b : α} (h : a ≠ b) : (a != b) = true := bne_iff_ne.2 h
theorem C_ {α : Type _} {xs : Array α} {i : Nat} {b : α} (h : xs[i]? = some b) : ∃ h : i < xs.size, xs[i] = b := Array.getElem?_eq_some_iff.1 h
theorem D_ {α : Type _} [BEq α] [LawfulBEq α] {a b : α} (h : a = b) : (a == b) = true := beq_iff_eq.2 h
theorem E_ {b : Bool} (h : b ≠ true) : b = false := Bool.eq_false_iff.2 h
theorem F_ {α : Type _} {l : List α} (h : l ≠ []) : 0 < l.length := List.length_pos_iff.2 h
theorem G_ {α : Type _} {a : α} {s t : List α} (h : a ∈ s ++ t) : a ∈ s ∨ a ∈ t := List.mem_append.1 h
abbrev H_ := @Nat.le_refl
abbrev I_ := @heap_alloc_new
abbrev J_ := @Below.refl
abbrev K_ := @if_neg
abbrev L_ := @bodyPost_ret
abbrev M_ := @if_pos
abbrev N_ := @World.block_lt_of_cell?
abbrev O_ := @List.length_append
abbrev P_ := @List.length_cons
abbrev Q_ := @List.length_drop
abbrev R_ := @List.getElem?_eq_getElem
abbrev S_ := @List.getD_eq_getElem?_getD
abbrev T_ := @And.intro
abbrev U_ := @List.length_map
abbrev V_ := @decide_eq_false
abbrev W_ := @decide_eq_true
abbrev X_ := @List.eq_nil_of_length_eq_zero
abbrev Y_ := @Nat.lt_of_lt_of_le
abbrev Z_ := @List.take_succ_eq_append_getElem
abbrev a_ := @Bool.and_eq_true
abbrev b_ := @List.length_nil
abbrev c_ := @congrArg
abbrev d_ := @Nat.le_trans
abbrev e_ := @Option.some.inj
abbrev f_ := @List.map_append
abbrev g_ := @List.getElem_mem
abbrev h_ := @Nat.zero_le
abbrev i_ := @List.flatMap_cons
abbrev j_ := @Int.le_trans
abbrev k_ := @List.length_take
abbrev l_ := @Int.le_refl
abbrev m_ := @List.exists_cons_of_ne_nil
abbrev n_ := @Nat.lt_succ_self
abbrev o_ := @List.append_assoc
abbrev p_ := @List.flatMap_append
abbrev q_ := @Int.eq_ofNat_of_zero_le
end Go.Proofs.YtgcfjkfipkfijaaGreatDoor
namespace Go.Proofs.YtgcfjkfipkfijaaGreatDoor
open Go Go.RowKit Tryz
structure Same (M : List Nat) (w w' : World) : Prop where
 os : w'.os = w.os
 tape : w'.tape = w.tape
 output : w'.output = w.output
 size : w.heap.size ≤ w'.heap.size
 block : ∀ k, k < w.heap.size → k ∉ M → w'.heap[k]? = w.heap[k]?
namespace Same
variable {M M' : List Nat} {a b c w w' : World}
theorem refl (M w) : Same M w w := ⟨rfl, rfl, rfl, H_ _, fun _ _ _ => rfl⟩
theorem trans (h : Same M a b) (k : Same M' b c) (hm : ∀ x, x ∈ M' → x ∈ M ∨ a.heap.size ≤ x) : Same M a c :=
 ⟨k.os.trans h.os, k.tape.trans h.tape, k.output.trans h.output, d_ h.size k.size, fun i hi hn =>
  (k.block i (Y_ hi h.size) (fun hc => (hm i hc).elim hn (fun h' => by omega))).trans (h.block i hi hn)⟩
theorem then_ (h : Same M a b) (k : Same M b c) : Same M a c := h.trans k (fun _ hx => Or.inl hx)
theorem mono (h : Same M w w') (hm : ∀ x, x ∈ M → x ∈ M') : Same M' w w' := ⟨h.os, h.tape, h.output, h.size, fun i hi hn => h.block i hi (fun hc => hn (hm i hc))⟩
theorem of_below (h : Below w.heap.size w w') : Same M w w' := ⟨h.os, h.tape, h.output, h.size, fun i hi _ => h.block i hi⟩
theorem below (h : Same [] w w') : Below w.heap.size w w' := ⟨h.os, h.tape, h.output, h.size, fun i hi => h.block i hi (by simp)⟩
theorem below_ (h : Same M a b) (k : Below b.heap.size b c) : Same M a c := h.trans (of_below (M := []) k) (fun _ hx => by simp at hx)
theorem below_of (h : Same M w w') (hM : ∀ k, k ∈ M → w.heap.size ≤ k) : Below w.heap.size w w' := ⟨h.os, h.tape, h.output, h.size, fun i hi => h.block i hi (fun hc => by have := hM i hc; omega)⟩
theorem alloc (h : Same M a w) (o) : Same M a (w.alloc o) :=
 h.trans (M' := []) ⟨rfl, rfl, rfl, by simp, fun i hi _ => Below.heap_alloc _ _ _ hi⟩ (fun _ hx => by simp at hx)
theorem drew (h : Same M a w) : Same M a w.drew := ⟨h.os, h.tape, h.output, h.size, h.block⟩
theorem drewN (h : Same M a w) (n) : Same M a (w.drewN n) := ⟨h.os, h.tape, h.output, h.size, h.block⟩
theorem setCell (h : Same M a w) {p} (hp : p.block ∈ M ∨ a.heap.size ≤ p.block) (v) : Same M a (w.setCell p v) :=
 h.trans (M' := [p.block]) ⟨rfl, rfl, rfl, by simp [World.setCell], fun i _ hn => Below.heap_setCell _ _ _ _ (by simpa using hn)⟩
  (fun x hx => by simp at hx; subst hx; exact hp)
theorem grown (h : Same M a w) {row} (hg : w.grownBy w' row) (hr : ∀ k, row = some k → k ∈ M ∨ a.heap.size ≤ k) : Same M a w' :=
 h.trans (M' := row.toList) ⟨hg.os, hg.tape, hg.output, hg.size, fun i hi hn => hg.block i hi (fun e => hn (by rw [← e]; simp))⟩
  (fun x hx => hr x (by cases row <;> simp_all))
theorem cell (h : Same M w w') {p v} (hp : p.block ∉ M) (hc : w.cell? p = some v) : w'.cell? p = some v :=
 (World.cell?_of_block (w := w) (h.block p.block (N_ w p hc) hp)).trans hc
theorem heap (h : Same M w w') {k o} (hk : k ∉ M) (ho : w.heap[k]? = some o) : w'.heap[k]? = some o :=
 (h.block k (C_ ho).1 hk).trans ho
end Same
structure ax (α : Type) where
 sz : Nat
 rep : List Nat → World → α → List Value → Prop
 len : ∀ {M w x cs}, rep M w x cs → cs.length = sz
 keep : ∀ {M w w' x cs}, rep M w x cs → Same M w w' → rep M w' x cs
 less : ∀ {M M' w x cs}, rep M w x cs → (∀ k, k ∈ M' → k ∈ M ∨ w.heap.size ≤ k) → rep M' w x cs
namespace ax
variable {α β : Type}
def int (k : IntKind) : ax Int := ⟨1, fun _ _ x cs => cs = [.int k x], fun h => by rw [h]; rfl, fun h _ => h, fun h _ => h⟩
def bool : ax Bool := ⟨1, fun _ _ x cs => cs = [.bool x], fun h => by rw [h]; rfl, fun h _ => h, fun h _ => h⟩
def str : ax ByteArray := ⟨1, fun _ _ x cs => cs = [.string x], fun h => by rw [h]; rfl, fun h _ => h, fun h _ => h⟩
def pair (p : ax α) (q : ax β) : ax (α × β) :=
 ⟨p.sz + q.sz, fun M w x cs => ∃ c d, cs = c ++ d ∧ p.rep M w x.1 c ∧ q.rep M w x.2 d,
  fun h => by obtain ⟨c, d, rfl, h1, h2⟩ := h; rw [O_, p.len h1, q.len h2],
  fun h s => by obtain ⟨c, d, rfl, h1, h2⟩ := h; exact ⟨c, d, rfl, p.keep h1 s, q.keep h2 s⟩,
  fun h s => by obtain ⟨c, d, rfl, h1, h2⟩ := h; exact ⟨c, d, rfl, p.less h1 s, q.less h2 s⟩⟩
def iso (p : ax β) (f : α → β) : ax α := ⟨p.sz, fun M w x cs => p.rep M w (f x) cs, fun h => p.len h, fun h s => p.keep h s, fun h s => p.less h s⟩
def Row (d : ax α) (M : List Nat) (w : World) (A : Option Addr) (xs : List α) : Prop :=
 xs.length ≤ 9223372036854775807 ∧ (0 < xs.length → ∃ ad, A = some ad ∧ ad.block ∉ M ∧ ad.block < w.heap.size ∧
  ∀ i (h : i < xs.length), ∃ cs, d.rep M w xs[i] cs ∧ ∀ j u, cs[j]? = some u → w.cell? (ad.add (i * d.sz + j)) = some u)
theorem tW (a : Addr) (n : Nat) : (a.add n).block = a.block := by unfold Addr.add; split <;> rfl
theorem yw (a : Addr) (i j : Nat) : (a.add i).add j = a.add (i + j) := by
 unfold Addr.add
 by_cases hi : i = 0 <;> by_cases hj : j = 0 <;> simp [hi, hj, Nat.add_assoc]
theorem add_field (a : Addr) (p j : Nat) (hj : 0 < j) : a.add (p + j) = ⟨(a.add p).block, (a.add p).off + j, none⟩ := by
 have h : ∀ b : Addr, b.add j = ⟨b.block, b.off + j, none⟩ := fun b => by unfold Addr.add; rw [K_ (by omega)]
 rw [← yw, h]
theorem Row.keep {d : ax α} {M : List Nat} {w w' : World} {A : Option Addr} {xs : List α} (h : d.Row M w A xs) (s : Same M w w') : d.Row M w' A xs :=
 ⟨h.1, fun hn => by
  obtain ⟨ad, e, hb, hl, hc⟩ := h.2 hn
  refine ⟨ad, e, hb, Y_ hl s.size, fun i hi => ?_⟩
  obtain ⟨cs, hk, hcs⟩ := hc i hi
  exact ⟨cs, d.keep hk s, fun j u hu => s.cell (by rw [tW]; exact hb) (hcs j u hu)⟩⟩
theorem Row.less {d : ax α} {M M' : List Nat} {w : World} {A : Option Addr} {xs : List α} (h : d.Row M w A xs) (hm : ∀ k, k ∈ M' → k ∈ M ∨ w.heap.size ≤ k) : d.Row M' w A xs :=
 ⟨h.1, fun hn => by
  obtain ⟨ad, e, hb, hl, hc⟩ := h.2 hn
  refine ⟨ad, e, fun hb' => (hm _ hb').elim hb (fun h1 => by omega), hl, fun i hi => ?_⟩
  obtain ⟨cs, hk, hcs⟩ := hc i hi
  exact ⟨cs, d.less hk hm, hcs⟩⟩
theorem Row.nil (d : ax α) (M : List Nat) (w : World) (A : Option Addr) : d.Row M w A [] := ⟨by simp, fun h => absurd h (by simp)⟩
theorem Row.imp {d d' : ax α} {M : List Nat} {w : World} {A : Option Addr} {xs : List α} (hs : d'.sz = d.sz) (h : d.Row M w A xs)
  (hi : ∀ x cs, x ∈ xs → d.rep M w x cs → d'.rep M w x cs) : d'.Row M w A xs :=
 ⟨h.1, fun hn => by
  obtain ⟨ad, e, hb, hl, hc⟩ := h.2 hn
  refine ⟨ad, e, hb, hl, fun i hi' => ?_⟩
  obtain ⟨cs, hk, hcs⟩ := hc i hi'
  exact ⟨cs, hi _ _ (g_ hi') hk, by rw [hs]; exact hcs⟩⟩
theorem Row.at_ {d : ax α} {M : List Nat} {w : World} {A : Option Addr} {xs : List α} (h : d.Row M w A xs) (k) (hk : k < xs.length) :
  ∃ ad cs, A = some ad ∧ ad.block ∉ M ∧ d.rep M w xs[k] cs ∧ ∀ j u, cs[j]? = some u → w.cell? (ad.add (k * d.sz + j)) = some u := by
 obtain ⟨ad, e, hb, _, hc⟩ := h.2 (by omega)
 obtain ⟨cs, h1, h2⟩ := hc k hk
 exact ⟨ad, cs, e, hb, h1, h2⟩
def slice (d : ax α) : ax (List α) :=
 ⟨1, fun M w xs cs => ∃ A c, cs = [.slice A xs.length c] ∧ xs.length ≤ c ∧ d.Row M w A xs,
  fun h => by obtain ⟨A, c, rfl, _⟩ := h; rfl,
  fun h s => by obtain ⟨A, c, e, h1, h2⟩ := h; exact ⟨A, c, e, h1, h2.keep s⟩,
  fun h s => by obtain ⟨A, c, e, h1, h2⟩ := h; exact ⟨A, c, e, h1, h2.less s⟩⟩
end ax
end Go.Proofs.YtgcfjkfipkfijaaGreatDoor
namespace Go.Proofs.YtgcfjkfipkfijaaGreatDoor
open Go Go.RowKit Tryz
structure aZ where
 kind : Int
 text : ByteArray
 n : Int
 at_ : Int
inductive Ex where
 | mk (op : Int) (n : Int) (name : ByteArray) (kids : List Ex)
namespace Ex
def op : Ex → Int | .mk o _ _ _ => o
def n : Ex → Int | .mk _ n _ _ => n
def name : Ex → ByteArray | .mk _ _ s _ => s
def kids : Ex → List Ex | .mk _ _ _ k => k
theorem eta (e : Ex) : e = .mk e.op e.n e.name e.kids := by cases e; rfl
end Ex
def db : ax aZ := ax.iso (.pair (.int .i64) (.pair .str (.pair (.int .i64) (.int .i64)))) (fun t => (t.kind, t.text, t.n, t.at_))
def sW : Nat → ax Ex
 | 0 => ⟨4, fun _ _ _ _ => False, fun h => h.elim, fun h _ => h.elim, fun h _ => h.elim⟩
 | d + 1 => ax.iso (.pair (.int .i64) (.pair (.int .i64) (.pair .str (.slice (sW d))))) (fun e => (e.op, e.n, e.name, e.kids))
theorem lB : ∀ d, (sW d).sz = 4
 | 0 => rfl
 | _ + 1 => rfl
theorem jx {d M w e cs} : (sW (d + 1)).rep M w e cs ↔
  ∃ A c, cs = [.int .i64 e.op, .int .i64 e.n, .string e.name, .slice A e.kids.length c] ∧ e.kids.length ≤ c ∧ (sW d).Row M w A e.kids := by
 constructor
 ·rintro ⟨_, _, rfl, rfl, _, _, rfl, rfl, _, _, rfl, rfl, A, c, rfl, h1, h2⟩
  exact ⟨A, c, rfl, h1, h2⟩
 ·rintro ⟨A, c, rfl, h1, h2⟩
  exact ⟨[.int .i64 e.op], [.int .i64 e.n, .string e.name, .slice A e.kids.length c], rfl, rfl, [.int .i64 e.n], [.string e.name, .slice A e.kids.length c], rfl, rfl, [.string e.name], [.slice A e.kids.length c], rfl, rfl, A, c, rfl, h1, h2⟩
theorem pg : ∀ {d : Nat} {M : List Nat} {w : World} {e : Ex} {cs : List Value}, (sW d).rep M w e cs → (sW (d + 1)).rep M w e cs
 | 0, _, _, _, _, h => h.elim
 | d + 1, M, w, e, cs, h => by
  obtain ⟨A, c, rfl, h1, h2⟩ := jx.1 h
  exact jx.2 ⟨A, c, rfl, h1, h2.imp (by rw [lB, lB]) (fun x cs _ hx => pg hx)⟩
theorem vQ {d d'} (hd : d ≤ d') {M w e cs} (h : (sW d).rep M w e cs) : (sW d').rep M w e cs := by
 induction hd with
 | refl => exact h
 | step _ ih => exact pg ih
def dZ : ax Ex := ⟨4, fun M w e cs => ∃ d, (sW d).rep M w e cs, fun h => by obtain ⟨d, h⟩ := h; rw [(sW d).len h, lB], fun h s => h.imp fun d h => (sW d).keep h s, fun h s => h.imp fun d h => (sW d).less h s⟩
theorem jy {M w e cs} (h : dZ.rep M w e cs) :
  ∃ A c, cs = [.int .i64 e.op, .int .i64 e.n, .string e.name, .slice A e.kids.length c] ∧ e.kids.length ≤ c ∧ dZ.Row M w A e.kids := by
 obtain ⟨d, h⟩ := h
 cases d with
 | zero => exact h.elim
 | succ d =>
  obtain ⟨A, c, rfl, h1, h2⟩ := jx.1 h
  exact ⟨A, c, rfl, h1, h2.imp (by rw [lB]; rfl) (fun x cs _ hx => ⟨d, hx⟩)⟩
theorem yx {M w A ks} (h : dZ.Row M w A ks) : ∃ d, (sW d).Row M w A ks := by
 by_cases hn : 0 < ks.length
 ·obtain ⟨ad, e, hb, hl, hc⟩ := h.2 hn
  have key : ∀ m, m ≤ ks.length → ∃ d, ∀ i (hi : i < ks.length), i < m → ∃ cs, (sW d).rep M w ks[i] cs ∧ ∀ j u, cs[j]? = some u → w.cell? (ad.add (i * 4 + j)) = some u := by
   intro m
   induction m with
   | zero => intro _; exact ⟨0, fun i _ h => absurd h (by omega)⟩
   | succ m ih =>
    intro hm
    obtain ⟨d, hd⟩ := ih (by omega)
    obtain ⟨cs, ⟨d', h'⟩, hcs⟩ := hc m (by omega)
    refine ⟨d + d', fun i hi him => ?_⟩
    by_cases e : i = m
    ·subst e; exact ⟨cs, vQ (by omega) h', hcs⟩
    ·obtain ⟨cs, h1, h2⟩ := hd i hi (by omega)
     exact ⟨cs, vQ (by omega) h1, h2⟩
  obtain ⟨d, hd⟩ := key ks.length le_
  refine ⟨d, h.1, fun _ => ⟨ad, e, hb, hl, fun i hi => ?_⟩⟩
  rw [lB]
  exact hd i hi hi
 ·exact ⟨0, h.1, fun h => absurd h hn⟩
theorem ov {M w e A c} (h1 : e.kids.length ≤ c) (h2 : dZ.Row M w A e.kids) :
  dZ.rep M w e [.int .i64 e.op, .int .i64 e.n, .string e.name, .slice A e.kids.length c] := by
 obtain ⟨d, h⟩ := yx h2
 exact ⟨d + 1, jx.2 ⟨A, c, rfl, h1, h⟩⟩
theorem vR {M w A ks} (h : dZ.Row M w A ks) (k) (hk : k < ks.length) :
  ∃ ad A' c', A = some ad ∧ w.cell? (ad.add (k * 4)) = some (.int .i64 ks[k].op) ∧ w.cell? ⟨(ad.add (k * 4)).block, (ad.add (k * 4)).off + 1, none⟩ = some (.int .i64 ks[k].n) ∧
   w.cell? ⟨(ad.add (k * 4)).block, (ad.add (k * 4)).off + 2, none⟩ = some (.string ks[k].name) ∧ w.cell? ⟨(ad.add (k * 4)).block, (ad.add (k * 4)).off + 3, none⟩ = some (.slice A' ks[k].kids.length c') ∧
   ks[k].kids.length ≤ c' ∧ dZ.Row M w A' ks[k].kids ∧ ad.block ∉ M := by
 obtain ⟨ad, cs, e, hb, hr, hc⟩ := h.at_ k hk
 obtain ⟨A', c', rfl, h1, h2⟩ := jy hr
 have hc0 : ∀ j u, _ → w.cell? (ad.add (k * 4 + j)) = some u := hc
 exact ⟨ad, A', c', e, hc0 0 _ rfl, by rw [← ax.add_field _ _ 1 (by omega)]; exact hc0 1 _ rfl, by rw [← ax.add_field _ _ 2 (by omega)]; exact hc0 2 _ rfl, by rw [← ax.add_field _ _ 3 (by omega)]; exact hc0 3 _ rfl, h1, h2, hb⟩
theorem lk {M w ad ks} (h : dZ.Row M w (some ad) ks) (k) (hk : k < ks.length) :
  ∃ A' c', w.cell? (ad.add (k * 4)) = some (.int .i64 ks[k].op) ∧ w.cell? ⟨(ad.add (k * 4)).block, (ad.add (k * 4)).off + 1, none⟩ = some (.int .i64 ks[k].n) ∧
   w.cell? ⟨(ad.add (k * 4)).block, (ad.add (k * 4)).off + 2, none⟩ = some (.string ks[k].name) ∧ w.cell? ⟨(ad.add (k * 4)).block, (ad.add (k * 4)).off + 3, none⟩ = some (.slice A' ks[k].kids.length c') ∧
   ks[k].kids.length ≤ c' ∧ dZ.Row M w A' ks[k].kids ∧ ad.block ∉ M := by
 obtain ⟨ad', A', c', e, h⟩ := vR h k hk
 injection e with e
 subst e
 exact ⟨A', c', h⟩
theorem zR {M w A ks} (h : db.Row M w A ks) (k) (hk : k < ks.length) :
  ∃ ad, A = some ad ∧ w.cell? (ad.add (k * 4)) = some (.int .i64 ks[k].kind) ∧ w.cell? ⟨(ad.add (k * 4)).block, (ad.add (k * 4)).off + 1, none⟩ = some (.string ks[k].text) ∧
   w.cell? ⟨(ad.add (k * 4)).block, (ad.add (k * 4)).off + 2, none⟩ = some (.int .i64 ks[k].n) ∧ w.cell? ⟨(ad.add (k * 4)).block, (ad.add (k * 4)).off + 3, none⟩ = some (.int .i64 ks[k].at_) ∧ ad.block ∉ M := by
 obtain ⟨ad, cs, e, hb, ⟨_, _, rfl, rfl, _, _, rfl, rfl, _, _, rfl, rfl, rfl⟩, hc⟩ := h.at_ k hk
 have hc0 : ∀ j u, _ → w.cell? (ad.add (k * 4 + j)) = some u := hc
 exact ⟨ad, e, hc0 0 _ rfl, by rw [← ax.add_field _ _ 1 (by omega)]; exact hc0 1 _ rfl, by rw [← ax.add_field _ _ 2 (by omega)]; exact hc0 2 _ rfl, by rw [← ax.add_field _ _ 3 (by omega)]; exact hc0 3 _ rfl, hb⟩
end Go.Proofs.YtgcfjkfipkfijaaGreatDoor
namespace Go.Proofs.YtgcfjkfipkfijaaGreatDoor
open Go Go.RowKit Go.Lib Tryz
def iZ : Nat → List UInt8 → List (Nat × Nat)
 | 0, _ => []
 | n + 1, l => if l = [] then [] else decodeL l :: iZ n (l.drop (decodeL l).2)
def ai (l : List UInt8) : List (Nat × Nat) := iZ l.length l
theorem gp : ∀ n, iZ n [] = []
 | 0 => rfl
 | _ + 1 => rfl
theorem ph : ∀ (n m : Nat) (l : List UInt8), l.length ≤ n → l.length ≤ m → iZ n l = iZ m l := by
 intro n
 induction n with
 | zero => intro m l hn _; rw [X_ (by omega : l.length = 0), gp, gp]
 | succ n ih =>
  intro m l hn hm
  by_cases hl : l = []
  ·rw [hl, gp, gp]
  ·have h1 : 0 < l.length := F_ hl
   obtain ⟨m, rfl⟩ := pk_ m 1 (by omega)
   have hw := decodeL_width l
   simp only [iZ, K_ hl]
   rw [ih m _ (by rw [Q_]; omega) (by rw [Q_]; omega)]
theorem d9 : ai [] = [] := rfl
theorem aV (l) (h : l ≠ []) : ai l = decodeL l :: ai (l.drop (decodeL l).2) := by
 have h1 : 0 < l.length := F_ h
 have hw := decodeL_width l
 unfold ai
 obtain ⟨n, hn⟩ : ∃ k, l.length = k + 1 := ⟨l.length - 1, by omega⟩
 rw [hn]
 simp only [iZ, K_ h]
 rw [ph n _ _ (by rw [Q_]; omega) le_]
theorem dQ (s pos) (h : pos < s.size) :
  ai (s.data.toList.drop pos) = Utf8.decode s pos :: ai (s.data.toList.drop (pos + (Utf8.decode s pos).2)) := by
 have hl : s.data.toList.drop pos ≠ [] := by
  intro e
  have := c_ List.length e
  simp at this
  have : s.data.size = s.size := rfl
  omega
 rw [aV _ hl, decodeL_drop, List.drop_drop]
theorem di (s : ByteArray) (pos : Nat) (h : ¬ pos < s.size) : ai (s.data.toList.drop pos) = [] := by
 rw [List.drop_of_length_le (by simp; have : s.data.size = s.size := rfl; omega), d9]
theorem eB (s pos) (h : pos < s.size) : pos + (Utf8.decode s pos).2 ≤ s.size := by
 have hl : s.data.toList.drop pos ≠ [] := by
  intro e
  have := c_ List.length e
  simp at this
  have : s.data.size = s.size := rfl
  omega
 have := decodeL_le _ hl
 rw [decodeL_drop] at this
 simp at this
 have : s.data.size = s.size := rfl
 omega
theorem iR (s) : ∀ (fuel pos : Nat), s.size ≤ pos + fuel → runeCountFrom s fuel pos = (ai (s.data.toList.drop pos)).length := by
 intro fuel
 induction fuel with
 | zero => intro pos h; rw [di s pos (by omega)]; rfl
 | succ n ih =>
  intro pos h
  simp only [runeCountFrom]
  by_cases hp : pos < s.size
  ·have := decode_width_pos s pos hp
   rw [M_ hp, dQ s pos hp, ih _ (by omega), P_]
   omega
  ·rw [K_ hp, di s pos hp]; rfl
theorem dy (s) : runeCount s = (ai s.data.toList).length := by
 unfold runeCount
 rw [iR s _ _ (by omega), List.drop_zero]
theorem gq (l) : validD l = (ai l).all (fun r => !(r == (65533, 1))) := by
 obtain ⟨n, hn⟩ := nm_ l.length
 induction n using Nat.strongRecOn generalizing l with
 | _ n ih =>
  by_cases hl : l = []
  ·subst hl; rfl
  ·have h1 : 0 < l.length := F_ hl
   have hw := decodeL_width l
   rw [validD_step l hl, aV l hl, List.all_cons]
   by_cases hb : (decodeL l).1 = 65533 ∧ (decodeL l).2 = 1
   ·rw [M_ hb]
    have : (decodeL l) = (65533, 1) := Prod.ext hb.1 hb.2
    simp [this]
   ·rw [K_ hb, ih _ (by rw [← hn, Q_]; omega) _ rfl]
    have : (decodeL l == (65533, 1)) = false := by
     rw [beq_eq_false_iff_ne]; intro e; exact hb ⟨by rw [e], by rw [e]⟩
    simp [this]
def gN : List UInt8 := [40, 41, 123, 125, 44, 59, 58, 61, 43, 45, 42, 47, 37, 60, 62, 33, 38, 124]
def cO (r : Int) : Int :=
 if r = 32 ∨ r = 9 ∨ r = 13 ∨ r = 10 then 1
 else if (97 ≤ r ∧ r ≤ 122) ∨ (65 ≤ r ∧ r ≤ 90) ∨ r = 95 then 2
 else if 192 ≤ r ∧ r ≤ 591 ∧ r ≠ 215 ∧ r ≠ 247 then 2
 else if 48 ≤ r ∧ r ≤ 57 then 3
 else if r = 34 then 5
 else if r = 35 then 6
 else if 32 < r ∧ r < 127 ∧ 0 ≤ indexByte gN r.toNat.toUInt8 then 4
 else 0
def lf (r : Nat) : Bool := cO r == 2 || cO r == 3
def dR (rs : List (Nat × Nat)) : Bool := rs.all fun r => lf r.1
def fC (s : ByteArray) : Bool := dR (ai s.data.toList) && decide (s.size ≠ 0)
def iS : Int → List (Nat × Nat) → Int
 | _, [] => -1
 | k, r :: rs => if r = (65533, 1) then k else iS (k + 1) rs
def bI : List (Nat × Nat) → Nat
 | [] => 0
 | r :: rs => if lf r.1 then r.2 + bI rs else 0
def iT : Nat → List (Nat × Nat) → Option Nat
 | a, [] => some a
 | a, r :: rs => if cO r.1 = 3 then iT (10 * a + (r.1 - 48)) rs else none
def rb : Option Nat → Int × Bool
 | none => (0, false)
 | some n => if 9223372036854775807 < n then (0, false) else (n, true)
def hH (s : ByteArray) : Int × Bool :=
 if s.size = 0 ∨ 19 < s.size ∨ 1 < s.size ∧ s.data.toList.getD 0 0 = 48 then (0, false) else rb (iT 0 (ai s.data.toList))
def cg (s : ByteArray) : Bool :=
 validD s.data.toList && fC s && (decide ((s.data.toList.getD 0 0).toNat < 48) || decide (57 < (s.data.toList.getD 0 0).toNat)) && decide ((ai s.data.toList).length ≤ 12)
end Go.Proofs.YtgcfjkfipkfijaaGreatDoor
namespace Go.Proofs.YtgcfjkfipkfijaaGreatDoor
open Go Go.RowKit Go.Lib Tryz
def cY (l : List UInt8) : Nat :=
 match l with
 | [] => 0
 | c :: _ => if cO c.toNat = 1 then 1 else if cO c.toNat = 6 then (if indexByte l 10 < 0 then l.length else (indexByte l 10).toNat) else 0
def hI : Nat → List UInt8 → Int → List UInt8 × Int
 | 0, l, a => (l, a)
 | f + 1, l, a => if cY l = 0 then (l, a) else hI f (l.drop (cY l)) (a + (ai (l.take (cY l))).length)
def fs : aZ := ⟨0, ⟨#[]⟩, 0, 0⟩
def hQ (l : List UInt8) : aZ × Int × Int :=
 let c := cut (cut (l.drop 1) [10]).1 [34]
 if c.2.2 = false then (fs, 0, 11)
 else if (ai c.1).any (fun r => decide (r.1 < 32)) then (fs, 0, 11)
 else if 20 < (ai c.1).length then (fs, 0, 2)
 else (⟨3, bytes' c.1, 0, 0⟩, c.1.length + 2, 0)
where bytes' (l : List UInt8) : ByteArray := ⟨l.toArray⟩
def bC (l : List UInt8) : aZ × Int × Int :=
 let k := cO (decodeL l).1
 let n := bI (ai l)
 if k = 2 then (if 12 < (ai (l.take n)).length then (fs, 0, 2) else (⟨1, ⟨(l.take n).toArray⟩, 0, 0⟩, n, 0))
 else if k = 3 then (if (hH ⟨(l.take n).toArray⟩).2 then (⟨2, ⟨(l.take n).toArray⟩, (hH ⟨(l.take n).toArray⟩).1, 0⟩, n, 0) else (fs, 0, 11))
 else if k = 5 then hQ l
 else if k = 4 then
  let m := if 1 < l.length ∧ l.getD 1 0 = 61 ∧ 0 ≤ indexByte [60, 62, 61, 33, 58] (l.getD 0 0) then 2 else (decodeL l).2
  (⟨4, ⟨(l.take m).toArray⟩, 0, 0⟩, m, 0)
 else (fs, 0, 11)
def skip (l : List UInt8) (a : Int) : List UInt8 × Int := hI (l.length + 1) l a
def dS : Nat → List UInt8 → Int → List aZ → List aZ × Int × Int
 | 0, _, _, _ => ([], 0, 0)
 | f + 1, l, a, out =>
  if l = [] then (out ++ [⟨0, ⟨#[]⟩, 0, a⟩], 0, 0)
  else
   let t := bC l
   let e := if out.length = 2000 then 2 else t.2.2
   if e ≠ 0 then ([], e, a)
   else
    let p := skip (l.drop t.2.1.toNat) (a + (ai (l.take t.2.1.toNat)).length)
    dS f p.1 p.2 (out ++ [{ t.1 with at_ := a }])
def cd (s : ByteArray) : List aZ × Int × Int :=
 if 8192 < s.size then ([], 2, 0)
 else if 0 ≤ iS 0 (ai s.data.toList) then ([], 10, iS 0 (ai s.data.toList))
 else dS (s.size + 1) (skip s.data.toList 0).1 (skip s.data.toList 0).2 []
theorem ed {f l a} (h : cY l ≠ 0) : hI (f + 1) l a = hI f (l.drop (cY l)) (a + (ai (l.take (cY l))).length) := by
 simp only [hI, K_ h]
theorem eT {f l a} (h : cY l = 0) : hI f l a = (l, a) := by
 cases f with
 | zero => rfl
 | succ f => simp only [hI, M_ h]
theorem gr : ∀ (l : List UInt8) (c : UInt8), -1 ≤ indexByte l c ∧ indexByte l c < l.length
 | [], _ => by simp [indexByte]
 | b :: l, c => by
  have := gr l c
  simp only [indexByte, P_]
  repeat' split
  all_goals omega
theorem vS : ∀ (n : Nat) (l : List UInt8), l.length ≤ n → (ai l).length ≤ l.length := by
 intro n
 induction n with
 | zero => intro l h; rw [X_ (by omega : l.length = 0)]; exact H_ _
 | succ n ih =>
  intro l h
  by_cases hl : l = []
  ·subst hl; exact H_ _
  ·have h1 : 0 < l.length := F_ hl
   have hw := decodeL_width l
   have := ih (l.drop (decodeL l).2) (by rw [Q_]; omega)
   rw [aV l hl, P_]
   rw [Q_] at this
   omega
theorem iA (l) : (ai l).length ≤ l.length := vS _ l le_
end Go.Proofs.YtgcfjkfipkfijaaGreatDoor
namespace Go.Proofs.YtgcfjkfipkfijaaGreatDoor
open Go Go.RowKit Go.Lib Tryz
theorem kh : ∀ (n : Nat) (l : List UInt8), l.length ≤ n → bI (ai l) ≤ l.length := by
 intro n
 induction n with
 | zero => intro l h; rw [X_ (by omega : l.length = 0)]; exact H_ _
 | succ n ih =>
  intro l h
  by_cases hl : l = []
  ·subst hl; exact H_ _
  ·have h1 : 0 < l.length := F_ hl
   have hw := decodeL_width l
   have hle := decodeL_le l hl
   have := ih (l.drop (decodeL l).2) (by rw [Q_]; omega)
   rw [Q_] at this
   rw [aV l hl]
   simp only [bI]
   split <;> omega
theorem kj {l} (hl : l ≠ []) (h : cO (decodeL l).1 = 2 ∨ cO (decodeL l).1 = 3) : 1 ≤ bI (ai l) := by
 have hw := decodeL_width l
 rw [aV l hl]
 have : lf (decodeL l).1 = true := by unfold lf; rcases h with h | h <;> rw [h] <;> rfl
 simp only [bI, this, if_true]
 omega
theorem tX {l sep} (h : (cut l sep).2.2 = true) (hs : sep.length = 1) : (cut l sep).1.length + 1 ≤ l.length := by
 unfold cut at h ⊢
 by_cases hi : 0 ≤ index l sep
 ·rw [M_ hi]
  have hb := index_room l sep hi
  simp
  omega
 ·rw [K_ hi] at h
  simp at h
theorem vT (l sep) : (cut l sep).1.length ≤ l.length := by
 unfold cut
 split
 ·simp; omega
 ·simp
theorem vU {l} (h : (hQ l).2.2 = 0) : 1 ≤ (hQ l).2.1 ∧ (hQ l).2.1 ≤ l.length := by
 unfold hQ at h ⊢
 simp only at h ⊢
 by_cases h1 : (cut (cut (l.drop 1) [10]).1 [34]).2.2 = false
 ·rw [M_ h1] at h; simp at h
 ·rw [K_ h1] at h ⊢
  have h1' : (cut (cut (l.drop 1) [10]).1 [34]).2.2 = true := by simpa using h1
  have a := tX h1' rfl
  have b := vT (l.drop 1) [10]
  rw [Q_] at b
  split at h
  ·simp at h
  ·rename_i h2
   rw [K_ h2]
   split at h
   ·simp at h
   ·rename_i h3
    rw [K_ h3]
    simp only
    omega
theorem ow {l} (hl : l ≠ []) (h : (bC l).2.2 = 0) : 1 ≤ (bC l).2.1 ∧ (bC l).2.1 ≤ l.length := by
 have h0 : 0 < l.length := F_ hl
 have hw := decodeL_width l
 have hle := decodeL_le l hl
 have hn := kh _ l le_
 unfold bC at h ⊢
 simp only at h ⊢
 split at h
 ·rename_i h2
  rw [M_ h2]
  have := kj hl (.inl h2)
  split at h
  ·simp at h
  ·rename_i h3
   rw [K_ h3]
   simp only
   omega
 ·rename_i h2
  rw [K_ h2]
  split at h
  ·rename_i h3
   rw [M_ h3]
   have := kj hl (.inr h3)
   split at h
   ·rename_i h4
    rw [M_ h4]
    simp only
    omega
   ·simp at h
  ·rename_i h3
   rw [K_ h3]
   split at h
   ·rename_i h4
    rw [M_ h4]
    exact vU h
   ·rename_i h4
    rw [K_ h4]
    split at h
    ·rename_i h5
     rw [M_ h5]
     simp only
     split <;> omega
    ·simp at h
end Go.Proofs.YtgcfjkfipkfijaaGreatDoor
namespace Go.Proofs
open Go.Shelf
def Tryz.lays156_ren : Go.Shelf.Ren := ⟨fun | 156 => 113 | 165 => 124 | 166 => 65 | 169 => 68 | 240 => 96 | 241 => 139 | 276 => 111 | 277 => 157 | n => n, fun | 31 => 37 | 9 => 9 | 3 => 3 | 4 => 4 | 0 => 0 | 20 => 20 | 72 => 110 | 76 => 115 | 70 => 107 | 37 => 108 | 75 => 114 | 127 => 136 | 164 => 147 | 5 => 5 | 80 => 118 | n => n, fun | n => n⟩
theorem Tryz.lays156 : Go.Proofs.Lays.n156 Tryz.prog Tryz.lays156_ren := {
 mixed := by kernel_rfl
 f156 := Tryz.func113.trans (congrArg some (by kernel_rfl))
 f165 := Tryz.func124.trans (congrArg some (by kernel_rfl))
 f166 := Tryz.func65.trans (congrArg some (by kernel_rfl))
 f169 := Tryz.func68.trans (congrArg some (by kernel_rfl))
 f240 := Tryz.func96.trans (congrArg some (by kernel_rfl))
 f241 := Tryz.func139.trans (congrArg some (by kernel_rfl))
 f276 := Tryz.func111.trans (congrArg some (by kernel_rfl))
 f277 := Tryz.func157.trans (congrArg some (by kernel_rfl))
 t0 := Tryz.underlying0
 a0 := Tryz.isAgg0
 z0 := Tryz.sizeOf0
 v0 := Tryz.zeroValue0
 t3 := Tryz.underlying3
 a3 := Tryz.isAgg3
 z3 := Tryz.sizeOf3
 v3 := Tryz.zeroValue3
 t4 := Tryz.underlying4
 a4 := Tryz.isAgg4
 z4 := Tryz.sizeOf4
 v4 := Tryz.zeroValue4
 t9 := Tryz.underlying9
 a9 := Tryz.isAgg9
 z9 := Tryz.sizeOf9
 v9 := Tryz.zeroValue9
 t20 := Tryz.underlying20
 a20 := Tryz.isAgg20
 z20 := Tryz.sizeOf20
 v20 := Tryz.zeroValue20
 t31 := Tryz.underlying37
 a31 := Tryz.isAgg37
 z31 := Tryz.sizeOf37
 v31 := Tryz.zeroValue37
 t37 := Tryz.underlying108
 a37 := Tryz.isAgg108
 z37 := Tryz.sizeOf108
 v37 := Tryz.zeroValue108
 t70 := Tryz.underlying107
 a70 := Tryz.isAgg107
 z70 := Tryz.sizeOf107
 v70 := Tryz.zeroValue107
 t72 := Tryz.underlying110
 a72 := Tryz.isAgg110
 z72 := Tryz.sizeOf110
 v72 := Tryz.zeroValue110
 t75 := Tryz.underlying114
 a75 := Tryz.isAgg114
 z75 := Tryz.sizeOf114
 v75 := Tryz.zeroValue114
 t76 := Tryz.underlying115
 a76 := Tryz.isAgg115
 z76 := Tryz.sizeOf115
 v76 := Tryz.zeroValue115
 t127 := Tryz.underlying136
 a127 := Tryz.isAgg136
 z127 := Tryz.sizeOf136
 v127 := Tryz.zeroValue136
 t164 := Tryz.underlying147
 a164 := Tryz.isAgg147
 z164 := Tryz.sizeOf147
 v164 := Tryz.zeroValue147 }
theorem Tryz.Builder_Extra_156 : Builder.Extra Tryz.prog Tryz.lays156_ren := {
 sizeBuilder := by kernel_rfl
 liesBuilder := by kernel_rfl
 t5 := Tryz.underlying5
 a5 := Tryz.isAgg5
 z5 := Tryz.sizeOf5
 v5 := Tryz.zeroValue5
 infoByte := by kernel_rfl
 cellsByte := by kernel_rfl
 sizeByte := by kernel_rfl
 neB5 := by decide }
open Go.RowKit in
theorem Tryz.strings_Join_none (a : Option Addr) (c : Nat) (sep : ByteArray) (w : World) :
  Calls Tryz.prog 113 #[.slice a 0 c, .string sep] w fun e w' => e = .returned (.string ⟨#[]⟩) ∧ w' = w := Any.strings_Join_none Tryz.lays156 Tryz.Builder_Extra_156 a c sep w
open Go.RowKit in
theorem Tryz.strings_Join (bk o c : Nat) (xs : List ByteArray) (sep : ByteArray) (w : World) (hcells : ∀ (j : Nat) x, xs[j]? = some x → w.cell? ⟨bk, o + j, none⟩ = some (.string x)) (hbk : bk < w.heap.size) (hN : xs.length ≤ 140737488355328) (hcap : xs.length ≤ c) (hlen : (Lib.join (xs.map (·.data.toList)) sep.data.toList).length ≤ 140737488355328) :
  Calls Tryz.prog 113 #[.slice (some ⟨bk, o, none⟩) xs.length c, .string sep] w fun e w' => e = .returned (.string ⟨(Lib.join (xs.map (·.data.toList)) sep.data.toList).toArray⟩) ∧ Below w.heap.size w w' := Any.strings_Join Tryz.lays156 Tryz.Builder_Extra_156 bk o c xs sep w hcells hbk hN hcap hlen
def Tryz.lays137_ren : Go.Shelf.Ren := ⟨fun | 137 => 75 | 217 => 106 | 266 => 119 | n => n, fun | 9 => 9 | 5 => 5 | 3 => 3 | n => n, fun | n => n⟩
theorem Tryz.lays137 : Go.Proofs.Lays.n137 Tryz.prog Tryz.lays137_ren := {
 mixed := by kernel_rfl
 f137 := Tryz.func75.trans (congrArg some (by kernel_rfl))
 f217 := Tryz.func106.trans (congrArg some (by kernel_rfl))
 f266 := Tryz.func119.trans (congrArg some (by kernel_rfl))
 t3 := Tryz.underlying3
 a3 := Tryz.isAgg3
 z3 := Tryz.sizeOf3
 v3 := Tryz.zeroValue3
 t5 := Tryz.underlying5
 a5 := Tryz.isAgg5
 z5 := Tryz.sizeOf5
 v5 := Tryz.zeroValue5
 t9 := Tryz.underlying9
 a9 := Tryz.isAgg9
 z9 := Tryz.sizeOf9
 v9 := Tryz.zeroValue9 }
open Go.RowKit in
theorem Tryz.strings_IndexByte (s : ByteArray) (c : Int) (w : World) :
  Calls Tryz.prog 75 #[.string s, .int .u8 c] w fun e w' => e = .returned (.int .i64 (Lib.indexByte s.data.toList c.toNat.toUInt8)) ∧ w' = w := Any.strings_IndexByte Tryz.lays137 s c w
def Tryz.lays195_ren : Go.Shelf.Ren := ⟨fun | 195 => 77 | n => n, fun | 9 => 9 | 3 => 3 | 0 => 0 | 4 => 4 | n => n, fun | n => n⟩
theorem Tryz.lays195 : Go.Proofs.Lays.n195 Tryz.prog Tryz.lays195_ren := {
 mixed := by kernel_rfl
 f195 := Tryz.func77.trans (congrArg some (by kernel_rfl))
 t0 := Tryz.underlying0
 a0 := Tryz.isAgg0
 z0 := Tryz.sizeOf0
 v0 := Tryz.zeroValue0
 t3 := Tryz.underlying3
 a3 := Tryz.isAgg3
 z3 := Tryz.sizeOf3
 v3 := Tryz.zeroValue3
 t4 := Tryz.underlying4
 a4 := Tryz.isAgg4
 z4 := Tryz.sizeOf4
 v4 := Tryz.zeroValue4
 t9 := Tryz.underlying9
 a9 := Tryz.isAgg9
 z9 := Tryz.sizeOf9
 v9 := Tryz.zeroValue9 }
open Go.RowKit in
theorem Tryz.utf8_RuneCountInString (s : ByteArray) (w : World) (hs : s.size < 9223372036854775807) :
  Calls Tryz.prog 77 #[.string s] w fun e w' => e = .returned (.int .i64 (Lib.runeCount s)) ∧ ∃ pos, w' = w.iter s pos := Any.utf8_RuneCountInString Tryz.lays195 s w hs
def Tryz.laysM171_ren : Go.Shelf.Ren := ⟨fun | 171 => 97 | 243 => 112 | 246 => 123 | 283 => 135 | 284 => 136 | 285 => 137 | 286 => 138 | 129 => 153 | 317 => 152 | 318 => 154 | 319 => 155 | 320 => 156 | 337 => 165 | 338 => 166 | n => n, fun | 3 => 3 | 9 => 9 | 2 => 2 | 4 => 4 | 171 => 170 | 0 => 0 | 53 => 141 | 37 => 108 | 5 => 5 | 173 => 173 | 212 => 179 | 51 => 180 | 20 => 20 | 213 => 181 | 46 => 155 | 232 => 189 | 233 => 190 | n => n, fun | 17 => 3 | 18 => 4 | 19 => 5 | n => n⟩
theorem Tryz.laysM171 : Go.Proofs.LaysM.n171 Tryz.prog Tryz.laysM171_ren := {
 mixed := by kernel_rfl
 f129 := Tryz.func153.trans (congrArg some (by kernel_rfl))
 f171 := Tryz.func97.trans (congrArg some (by kernel_rfl))
 f243 := Tryz.func112.trans (congrArg some (by kernel_rfl))
 f246 := Tryz.func123.trans (congrArg some (by kernel_rfl))
 f283 := Tryz.func135.trans (congrArg some (by kernel_rfl))
 f284 := Tryz.func136.trans (congrArg some (by kernel_rfl))
 f285 := Tryz.func137.trans (congrArg some (by kernel_rfl))
 f286 := Tryz.func138.trans (congrArg some (by kernel_rfl))
 f317 := Tryz.func152.trans (congrArg some (by kernel_rfl))
 f318 := Tryz.func154.trans (congrArg some (by kernel_rfl))
 f319 := Tryz.func155.trans (congrArg some (by kernel_rfl))
 f320 := Tryz.func156.trans (congrArg some (by kernel_rfl))
 f337 := Tryz.func165.trans (congrArg some (by kernel_rfl))
 f338 := Tryz.func166.trans (congrArg some (by kernel_rfl))
 t0 := Tryz.underlying0
 a0 := Tryz.isAgg0
 z0 := Tryz.sizeOf0
 v0 := Tryz.zeroValue0
 t2 := Tryz.underlying2
 a2 := Tryz.isAgg2
 z2 := Tryz.sizeOf2
 v2 := Tryz.zeroValue2
 t3 := Tryz.underlying3
 a3 := Tryz.isAgg3
 z3 := Tryz.sizeOf3
 v3 := Tryz.zeroValue3
 t4 := Tryz.underlying4
 a4 := Tryz.isAgg4
 z4 := Tryz.sizeOf4
 v4 := Tryz.zeroValue4
 t5 := Tryz.underlying5
 a5 := Tryz.isAgg5
 z5 := Tryz.sizeOf5
 v5 := Tryz.zeroValue5
 t9 := Tryz.underlying9
 a9 := Tryz.isAgg9
 z9 := Tryz.sizeOf9
 v9 := Tryz.zeroValue9
 t20 := Tryz.underlying20
 a20 := Tryz.isAgg20
 z20 := Tryz.sizeOf20
 v20 := Tryz.zeroValue20
 t37 := Tryz.underlying108
 a37 := Tryz.isAgg108
 z37 := Tryz.sizeOf108
 v37 := Tryz.zeroValue108
 t46 := Tryz.underlying155
 a46 := Tryz.isAgg155
 z46 := Tryz.sizeOf155
 v46 := Tryz.zeroValue155
 t51 := Tryz.underlying180
 a51 := Tryz.isAgg180
 z51 := Tryz.sizeOf180
 v51 := Tryz.zeroValue180
 t53 := Tryz.underlying141
 a53 := Tryz.isAgg141
 z53 := Tryz.sizeOf141
 v53 := Tryz.zeroValue141
 t171 := Tryz.underlying170
 a171 := Tryz.isAgg170
 z171 := Tryz.sizeOf170
 v171 := Tryz.zeroValue170
 t173 := Tryz.underlying173
 a173 := Tryz.isAgg173
 z173 := Tryz.sizeOf173
 v173 := Tryz.zeroValue173
 t212 := Tryz.underlying179
 a212 := Tryz.isAgg179
 z212 := Tryz.sizeOf179
 v212 := Tryz.zeroValue179
 t213 := Tryz.underlying181
 a213 := Tryz.isAgg181
 z213 := Tryz.sizeOf181
 t232 := Tryz.underlying189
 a232 := Tryz.isAgg189
 z232 := Tryz.sizeOf189
 v232 := Tryz.zeroValue189
 t233 := Tryz.underlying190
 a233 := Tryz.isAgg190
 z233 := Tryz.sizeOf190
 v233 := Tryz.zeroValue190
 g17 := by kernel_rfl
 g18 := by kernel_rfl
 g19 := by kernel_rfl
 i0 := by kernel_rfl
 i2 := by kernel_rfl
 i3 := by kernel_rfl
 i4 := by kernel_rfl
 i5 := by kernel_rfl
 i9 := by kernel_rfl
 i20 := by kernel_rfl
 i37 := by kernel_rfl
 i46 := by kernel_rfl
 i51 := by kernel_rfl
 i53 := by kernel_rfl
 i171 := by kernel_rfl
 i173 := by kernel_rfl
 i212 := by kernel_rfl
 i232 := by kernel_rfl
 i233 := by kernel_rfl
 m17 := by kernel_rfl
 m18 := by kernel_rfl
 m19 := by kernel_rfl }
open Go.RowKit Go.Sort Go.Lib in
theorem Tryz.strconv_Itoa (n : Int) (h0 : -9223372036854775808 ≤ n) (h1 : n ≤ 9223372036854775807) (w : World) (htab : Lib.TabIs Tryz.prog w "internal/strconv.uint64pow10" .u64 Lib.pow10Tab) :
  Calls Tryz.prog 97 #[.int .i64 n] w fun e w' => e = .returned (.string ⟨(Lib.itoa n).toArray⟩) ∧ ∃ k os, w' = grow (w.drewN k) os := Any.strconv_Itoa Tryz.laysM171 n h0 h1 w htab
def Tryz.lays145_ren : Go.Shelf.Ren := ⟨fun | 145 => 107 | 220 => 120 | 219 => 129 | 217 => 106 | 225 => 144 | 224 => 145 | 267 => 146 | 266 => 119 | 314 => 161 | n => n, fun | 9 => 9 | 4 => 4 | 59 => 142 | 3 => 3 | 5 => 5 | 46 => 155 | 146 => 185 | 51 => 180 | n => n, fun | 1 => 2 | n => n⟩
theorem Tryz.lays145 : Go.Proofs.Lays.n145 Tryz.prog Tryz.lays145_ren := {
 mixed := by kernel_rfl
 f145 := Tryz.func107.trans (congrArg some (by kernel_rfl))
 f217 := Tryz.func106.trans (congrArg some (by kernel_rfl))
 f219 := Tryz.func129.trans (congrArg some (by kernel_rfl))
 f220 := Tryz.func120.trans (congrArg some (by kernel_rfl))
 f224 := Tryz.func145.trans (congrArg some (by kernel_rfl))
 f225 := Tryz.func144.trans (congrArg some (by kernel_rfl))
 f266 := Tryz.func119.trans (congrArg some (by kernel_rfl))
 f267 := Tryz.func146.trans (congrArg some (by kernel_rfl))
 f314 := Tryz.func161.trans (congrArg some (by kernel_rfl))
 t3 := Tryz.underlying3
 a3 := Tryz.isAgg3
 z3 := Tryz.sizeOf3
 v3 := Tryz.zeroValue3
 t4 := Tryz.underlying4
 a4 := Tryz.isAgg4
 z4 := Tryz.sizeOf4
 v4 := Tryz.zeroValue4
 t5 := Tryz.underlying5
 a5 := Tryz.isAgg5
 z5 := Tryz.sizeOf5
 v5 := Tryz.zeroValue5
 t9 := Tryz.underlying9
 a9 := Tryz.isAgg9
 z9 := Tryz.sizeOf9
 v9 := Tryz.zeroValue9
 t46 := Tryz.underlying155
 a46 := Tryz.isAgg155
 z46 := Tryz.sizeOf155
 v46 := Tryz.zeroValue155
 t51 := Tryz.underlying180
 a51 := Tryz.isAgg180
 z51 := Tryz.sizeOf180
 v51 := Tryz.zeroValue180
 t59 := Tryz.underlying142
 a59 := Tryz.isAgg142
 z59 := Tryz.sizeOf142
 v59 := Tryz.zeroValue142
 t146 := Tryz.underlying185
 a146 := Tryz.isAgg185
 z146 := Tryz.sizeOf185
 v146 := Tryz.zeroValue185
 g1 := by kernel_rfl }
open Go.RowKit Go.Lib in
theorem Tryz.strings_Cut (s sep : ByteArray) (m : Int) (w : World) (hs : s.size < 4294967281) (hm : w.cell? ⟨2, 0, none⟩ = some (.int .i64 m)) :
  Calls Tryz.prog 107 #[.string s, .string sep] w fun e w' => e = .returned (.tuple #[.string ⟨(Lib.cut s.data.toList sep.data.toList).1.toArray⟩, .string ⟨(Lib.cut s.data.toList sep.data.toList).2.1.toArray⟩, .bool (Lib.cut s.data.toList sep.data.toList).2.2]) ∧ ∃ n, w' = w.drewN n := Any.strings_Cut Tryz.lays145 s sep m w hs hm
def Tryz.laysM219_ren : Go.Shelf.Ren := ⟨fun | 219 => 129 | 217 => 106 | 225 => 144 | 224 => 145 | 267 => 146 | 266 => 119 | 314 => 161 | n => n, fun | 9 => 9 | 3 => 3 | 4 => 4 | 5 => 5 | 46 => 155 | 146 => 185 | 51 => 180 | n => n, fun | 1 => 2 | n => n⟩
theorem Tryz.laysM219 : Go.Proofs.LaysM.n219 Tryz.prog Tryz.laysM219_ren := {
 mixed := by kernel_rfl
 f217 := Tryz.func106.trans (congrArg some (by kernel_rfl))
 f219 := Tryz.func129.trans (congrArg some (by kernel_rfl))
 f224 := Tryz.func145.trans (congrArg some (by kernel_rfl))
 f225 := Tryz.func144.trans (congrArg some (by kernel_rfl))
 f266 := Tryz.func119.trans (congrArg some (by kernel_rfl))
 f267 := Tryz.func146.trans (congrArg some (by kernel_rfl))
 f314 := Tryz.func161.trans (congrArg some (by kernel_rfl))
 t3 := Tryz.underlying3
 a3 := Tryz.isAgg3
 z3 := Tryz.sizeOf3
 v3 := Tryz.zeroValue3
 t4 := Tryz.underlying4
 a4 := Tryz.isAgg4
 z4 := Tryz.sizeOf4
 v4 := Tryz.zeroValue4
 t5 := Tryz.underlying5
 a5 := Tryz.isAgg5
 z5 := Tryz.sizeOf5
 v5 := Tryz.zeroValue5
 t9 := Tryz.underlying9
 a9 := Tryz.isAgg9
 z9 := Tryz.sizeOf9
 v9 := Tryz.zeroValue9
 t46 := Tryz.underlying155
 a46 := Tryz.isAgg155
 z46 := Tryz.sizeOf155
 v46 := Tryz.zeroValue155
 t51 := Tryz.underlying180
 a51 := Tryz.isAgg180
 z51 := Tryz.sizeOf180
 v51 := Tryz.zeroValue180
 t146 := Tryz.underlying185
 a146 := Tryz.isAgg185
 z146 := Tryz.sizeOf185
 v146 := Tryz.zeroValue185
 g1 := by kernel_rfl
 i3 := by kernel_rfl
 i4 := by kernel_rfl
 i5 := by kernel_rfl
 i9 := by kernel_rfl
 i46 := by kernel_rfl
 i51 := by kernel_rfl
 i146 := by kernel_rfl
 m1 := by kernel_rfl
 s1_3 := fun w h => Go.Proofs.cell_of_shapedOpen_int (zero := #[.int .i64 0]) (t := 3) h (of_decide_eq_true (by kernel_rfl)) (by kernel_rfl) rfl (by kernel_rfl) (by kernel_rfl) Tryz.underlying3 }
def Tryz.lays260_ren : Go.Shelf.Ren := ⟨fun | 260 => 105 | n => n, fun | 9 => 9 | 21 => 21 | 3 => 3 | 4 => 4 | 5 => 5 | 119 => 154 | 0 => 0 | 46 => 155 | 139 => 158 | 138 => 157 | n => n, fun | 3 => 0 | 4 => 1 | n => n⟩
theorem Tryz.lays260 : Go.Proofs.Lays.n260 Tryz.prog Tryz.lays260_ren := {
 mixed := by kernel_rfl
 f260 := Tryz.func105.trans (congrArg some (by kernel_rfl))
 t0 := Tryz.underlying0
 a0 := Tryz.isAgg0
 z0 := Tryz.sizeOf0
 v0 := Tryz.zeroValue0
 t3 := Tryz.underlying3
 a3 := Tryz.isAgg3
 z3 := Tryz.sizeOf3
 v3 := Tryz.zeroValue3
 t4 := Tryz.underlying4
 a4 := Tryz.isAgg4
 z4 := Tryz.sizeOf4
 v4 := Tryz.zeroValue4
 t5 := Tryz.underlying5
 a5 := Tryz.isAgg5
 z5 := Tryz.sizeOf5
 v5 := Tryz.zeroValue5
 t9 := Tryz.underlying9
 a9 := Tryz.isAgg9
 z9 := Tryz.sizeOf9
 v9 := Tryz.zeroValue9
 t21 := Tryz.underlying21
 a21 := Tryz.isAgg21
 z21 := Tryz.sizeOf21
 v21 := Tryz.zeroValue21
 t46 := Tryz.underlying155
 a46 := Tryz.isAgg155
 z46 := Tryz.sizeOf155
 v46 := Tryz.zeroValue155
 t119 := Tryz.underlying154
 a119 := Tryz.isAgg154
 z119 := Tryz.sizeOf154
 t138 := Tryz.underlying157
 a138 := Tryz.isAgg157
 z138 := Tryz.sizeOf157
 v138 := Tryz.zeroValue157
 t139 := Tryz.underlying158
 a139 := Tryz.isAgg158
 z139 := Tryz.sizeOf158
 v139 := Tryz.zeroValue158
 g3 := by kernel_rfl
 g4 := by kernel_rfl }
def Tryz.lays197_ren : Go.Shelf.Ren := ⟨fun | 197 => 73 | 260 => 105 | n => n, fun | 9 => 9 | 21 => 21 | 3 => 3 | 4 => 4 | 5 => 5 | 105 => 121 | 119 => 154 | 0 => 0 | 46 => 155 | 139 => 158 | 138 => 157 | n => n, fun | 3 => 0 | 4 => 1 | n => n⟩
theorem Tryz.lays197 : Go.Proofs.Lays.n197 Tryz.prog Tryz.lays197_ren := {
 mixed := by kernel_rfl
 f197 := Tryz.func73.trans (congrArg some (by kernel_rfl))
 f260 := Tryz.func105.trans (congrArg some (by kernel_rfl))
 t0 := Tryz.underlying0
 a0 := Tryz.isAgg0
 z0 := Tryz.sizeOf0
 v0 := Tryz.zeroValue0
 t3 := Tryz.underlying3
 a3 := Tryz.isAgg3
 z3 := Tryz.sizeOf3
 v3 := Tryz.zeroValue3
 t4 := Tryz.underlying4
 a4 := Tryz.isAgg4
 z4 := Tryz.sizeOf4
 v4 := Tryz.zeroValue4
 t5 := Tryz.underlying5
 a5 := Tryz.isAgg5
 z5 := Tryz.sizeOf5
 v5 := Tryz.zeroValue5
 t9 := Tryz.underlying9
 a9 := Tryz.isAgg9
 z9 := Tryz.sizeOf9
 v9 := Tryz.zeroValue9
 t21 := Tryz.underlying21
 a21 := Tryz.isAgg21
 z21 := Tryz.sizeOf21
 v21 := Tryz.zeroValue21
 t46 := Tryz.underlying155
 a46 := Tryz.isAgg155
 z46 := Tryz.sizeOf155
 v46 := Tryz.zeroValue155
 t105 := Tryz.underlying121
 a105 := Tryz.isAgg121
 z105 := Tryz.sizeOf121
 v105 := Tryz.zeroValue121
 t119 := Tryz.underlying154
 a119 := Tryz.isAgg154
 z119 := Tryz.sizeOf154
 t138 := Tryz.underlying157
 a138 := Tryz.isAgg157
 z138 := Tryz.sizeOf157
 v138 := Tryz.zeroValue157
 t139 := Tryz.underlying158
 a139 := Tryz.isAgg158
 z139 := Tryz.sizeOf158
 v139 := Tryz.zeroValue158
 g3 := by kernel_rfl
 g4 := by kernel_rfl }
open Go.RowKit Go.Lib in
theorem Tryz.utf8_DecodeRuneInString (s : ByteArray) (w : World) (hT : Lib.Utf8Tabs 0 1 w) :
  Calls Tryz.prog 73 #[.string s] w fun e w' => e = .returned (.tuple #[.int .i32 (Lib.decodeGo s).1, .int .i64 (Lib.decodeGo s).2]) ∧ Below w.heap.size w w' := Any.utf8_DecodeRuneInString Tryz.lays197 s w hT
def Tryz.lays110_ren : Go.Shelf.Ren := ⟨fun | 110 => 53 | 109 => 81 | n => n, fun | 31 => 37 | 9 => 9 | 4 => 4 | 3 => 3 | 0 => 0 | n => n, fun | n => n⟩
theorem Tryz.lays110 : Go.Proofs.Lays.n110 Tryz.prog Tryz.lays110_ren := {
 mixed := by kernel_rfl
 f109 := Tryz.func81.trans (congrArg some (by kernel_rfl))
 f110 := Tryz.func53.trans (congrArg some (by kernel_rfl))
 t0 := Tryz.underlying0
 a0 := Tryz.isAgg0
 z0 := Tryz.sizeOf0
 v0 := Tryz.zeroValue0
 t3 := Tryz.underlying3
 a3 := Tryz.isAgg3
 z3 := Tryz.sizeOf3
 v3 := Tryz.zeroValue3
 t4 := Tryz.underlying4
 a4 := Tryz.isAgg4
 z4 := Tryz.sizeOf4
 v4 := Tryz.zeroValue4
 t9 := Tryz.underlying9
 a9 := Tryz.isAgg9
 z9 := Tryz.sizeOf9
 v9 := Tryz.zeroValue9
 t31 := Tryz.underlying37
 a31 := Tryz.isAgg37
 z31 := Tryz.sizeOf37
 v31 := Tryz.zeroValue37 }
open Go.Lib in
theorem Tryz.slices_Contains_string (b off n c : Nat) (zs : List ByteArray) (x : ByteArray) (w : World) (hz : n ≤ zs.length) (hbig : n ≤ 9223372036854775807) (hc : ∀ j, j < zs.length → w.cell? ⟨b, off + j, none⟩ = some (.string (zs.getD j ByteArray.empty))) :
  Calls Tryz.prog 53 #[.slice (some ⟨b, off, none⟩) n c, .string x] w fun e w' => e = .returned (.bool (Lib.containsS (zs.take n) x)) ∧ w' = w := Any.slices_Contains_string Tryz.lays110 b off n c zs x w hz hbig hc
open Go.Lib in
theorem Tryz.slices_Contains_string_empty (a : Option Addr) (c : Nat) (x : ByteArray) (w : World) :
  Calls Tryz.prog 53 #[.slice a 0 c, .string x] w fun e w' => e = .returned (.bool false) ∧ w' = w := Any.slices_Contains_string_empty Tryz.lays110 a c x w
def Tryz.laysValid_ren : Go.Shelf.Ren := ⟨fun | 196 => 170 | 259 => 174 | n => n, fun | 9 => 9 | 4 => 4 | 3 => 3 | 5 => 5 | 12 => 12 | 119 => 154 | 0 => 0 | 46 => 155 | 139 => 158 | 138 => 157 | 53 => 141 | n => n, fun | 3 => 0 | 4 => 1 | n => n⟩
theorem Tryz.laysValid : Go.Proofs.Lays.n196 Tryz.prog Tryz.laysValid_ren := {
 mixed := by kernel_rfl
 f196 := Tryz.func170.trans (congrArg some (by kernel_rfl))
 f259 := Tryz.func174.trans (congrArg some (by kernel_rfl))
 t0 := Tryz.underlying0
 a0 := Tryz.isAgg0
 z0 := Tryz.sizeOf0
 v0 := Tryz.zeroValue0
 t3 := Tryz.underlying3
 a3 := Tryz.isAgg3
 z3 := Tryz.sizeOf3
 v3 := Tryz.zeroValue3
 t4 := Tryz.underlying4
 a4 := Tryz.isAgg4
 z4 := Tryz.sizeOf4
 v4 := Tryz.zeroValue4
 t5 := Tryz.underlying5
 a5 := Tryz.isAgg5
 z5 := Tryz.sizeOf5
 v5 := Tryz.zeroValue5
 t9 := Tryz.underlying9
 a9 := Tryz.isAgg9
 z9 := Tryz.sizeOf9
 v9 := Tryz.zeroValue9
 t12 := Tryz.underlying12
 a12 := Tryz.isAgg12
 z12 := Tryz.sizeOf12
 v12 := Tryz.zeroValue12
 t46 := Tryz.underlying155
 a46 := Tryz.isAgg155
 z46 := Tryz.sizeOf155
 v46 := Tryz.zeroValue155
 t53 := Tryz.underlying141
 a53 := Tryz.isAgg141
 z53 := Tryz.sizeOf141
 v53 := Tryz.zeroValue141
 t119 := Tryz.underlying154
 a119 := Tryz.isAgg154
 z119 := Tryz.sizeOf154
 t138 := Tryz.underlying157
 a138 := Tryz.isAgg157
 z138 := Tryz.sizeOf157
 v138 := Tryz.zeroValue157
 t139 := Tryz.underlying158
 a139 := Tryz.isAgg158
 z139 := Tryz.sizeOf158
 v139 := Tryz.zeroValue158
 g3 := by kernel_rfl
 g4 := by kernel_rfl }
open Go.RowKit Go.Lib in
theorem Tryz.utf8_ValidString (s : ByteArray) (w : World) (hs : s.size ≤ 9223372036854775807) (hT : Lib.Utf8Tabs 0 1 w) :
  Calls Tryz.prog 170 #[.string s] w fun e w' => e = .returned (.bool (Lib.validD s.data.toList)) ∧ Below w.heap.size w w' := Any.utf8_ValidString Tryz.laysValid s w hs hT
end Go.Proofs
namespace Go.Proofs.YtgcfjkfipkfijaaGreatDoor
open Go Go.RowKit Tryz
def dE (a b : ByteArray) : Bool := a.data.toList == b.data.toList
theorem aQ {a b} : dE a b = true ↔ a = b := by
 unfold dE
 rw [beq_iff_eq]
 exact ⟨fun h => ByteArray.ext (Array.toList_inj.1 h), fun h => by rw [h]⟩
def aH (op : Int) : Int := if op = 16 then 1 else if op = 15 then 2 else if 9 ≤ op ∧ op ≤ 14 then 3 else if op = 4 ∨ op = 5 then 4 else if 6 ≤ op ∧ op ≤ 8 then 5 else 6
def bytes (l : List UInt8) : ByteArray := ⟨l.toArray⟩
def aT (op : Int) : ByteArray :=
 bytes (if op = 2 ∨ op = 5 then [45] else if op = 3 then [33] else if op = 4 then [43] else if op = 6 then [42] else if op = 7 then [47] else if op = 8 then [37] else
  if op = 9 then [60] else if op = 10 then [60, 61] else if op = 11 then [62] else if op = 12 then [62, 61] else if op = 13 then [61, 61] else if op = 14 then [33, 61] else if op = 15 then [38] else [124])
abbrev gu (n : Int) : Prop := -9223372036854775808 ≤ n ∧ n ≤ 9223372036854775807
end Go.Proofs.YtgcfjkfipkfijaaGreatDoor
namespace Go.Proofs.YtgcfjkfipkfijaaGreatDoor
open Go Go.RowKit Go.Lib Tryz
inductive ch : Ex → Prop where
 | mk {op n : Int} {nm : ByteArray} {ks : List Ex} (h1 : gu op) (h2 : gu n) (h3 : nm.size ≤ 140737488355328) (h4 : ∀ k, k ∈ ks → ch k) : ch (.mk op n nm ks)
theorem ch.n {e} (h : ch e) : gu e.n := by cases h; assumption
theorem ch.name {e} (h : ch e) : e.name.size ≤ 140737488355328 := by cases h; assumption
theorem ch.kids {e} (h : ch e) : ∀ k, k ∈ e.kids → ch k := by cases h; assumption
theorem ch.kid {e} (h : ch e) (i) (hi : i < e.kids.length) : ch e.kids[i] := h.kids _ (g_ hi)
theorem re {e : Ex} (i) (hi : i < e.kids.length) : SizeOf.sizeOf e.kids[i] < SizeOf.sizeOf e := by
 cases e with
 | mk o n nm ks =>
  have h1 : SizeOf.sizeOf ks[i] < SizeOf.sizeOf ks := List.sizeOf_lt_of_mem (g_ hi)
  show SizeOf.sizeOf ks[i] < SizeOf.sizeOf (Ex.mk o n nm ks)
  simp
  omega
def ag (op kop : Int) (i : Int) : Bool := decide (aH kop < aH op) || (aH kop == aH op && decide (aH op < 6) && (i == 1 || aH op == 3))
def aE (op : Int) : Nat := if op = 2 ∨ op = 3 then 1 else 2
mutual
def aK : Ex → Int → Int
 | .mk op n nm ks, most =>
  if op = 0 ∨ op = 1 then (if 0 < ks.length ∨ op = 0 ∧ (n < 0 ∨ nm.size ≠ 0) ∨ op = 1 ∧ (n ≠ 0 ∨ cg nm = false) then -1 else 1)
  else if op < 0 ∨ 16 < op ∨ n ≠ 0 ∨ nm.size ≠ 0 ∨ ks.length ≠ aE op ∨ most < 1 then -1
  else bp op ks 0 1 most
def bp (op : Int) : List Ex → Int → Int → Int → Int
 | [], _, n, _ => n
 | k :: ks, i, n, most =>
  if aK k (most - n) < 0 then -1
  else if most < n + aK k (most - n) + (if ag op k.op i then 2 else 0) then -1
  else bp op ks (i + 1) (n + aK k (most - n) + (if ag op k.op i then 2 else 0)) most
end
def gW (e : Ex) : Bool := decide (0 < aK e 64) && decide (aK e 64 ≤ 64)
theorem lC : ∀ (ks : List Ex) (op i n most : Int), n ≤ most ∨ n = -1 → bp op ks i n most ≤ most ∨ bp op ks i n most = -1
 | [], _, _, _, _, h => by simp only [bp]; exact h
 | k :: ks, op, i, n, most, h => by
  simp only [bp]
  have hx : (0 : Int) ≤ (if ag op k.op i = true then 2 else 0) := by split <;> omega
  generalize (if ag op k.op i = true then (2 : Int) else 0) = x at hx ⊢
  split
  ·exact .inr rfl
  ·split
   ·exact .inr rfl
   ·exact lC ks op _ _ _ (.inl (by omega))
theorem yy (e most) : aK e most ≤ most ∨ aK e most ≤ 1 := by
 cases e with
 | mk o n nm ks =>
  simp only [aK]
  split
  ·split <;> right <;> decide
  ·split
   ·right; decide
   ·rename_i h
    rcases lC ks o 0 1 most (.inl (by omega)) with h | h <;> omega
theorem lD : ∀ (ks : List Ex) (op i n most : Int), -1 ≤ n → -1 ≤ bp op ks i n most
 | [], _, _, _, _, h => by simp only [bp]; exact h
 | k :: ks, op, i, n, most, h => by
  simp only [bp]
  have hx : (0 : Int) ≤ (if ag op k.op i = true then 2 else 0) := by split <;> omega
  generalize (if ag op k.op i = true then (2 : Int) else 0) = x at hx ⊢
  split
  ·omega
  ·split
   ·omega
   ·exact lD ks op _ _ _ (by omega)
theorem yz (e most) : -1 ≤ aK e most := by
 cases e with
 | mk o n nm ks =>
  simp only [aK]
  split
  ·split <;> decide
  ·split
   ·omega
   ·exact lD _ _ _ _ _ (by omega)
end Go.Proofs.YtgcfjkfipkfijaaGreatDoor
namespace Go.Proofs.YtgcfjkfipkfijaaGreatDoor
open Go Go.RowKit Go.Lib Tryz
structure St where
 at_ : Int
 bad : Int
def ah (l : List aZ) (i : Int) : aZ := if i < 0 ∨ (l.length : Int) ≤ i then fs else l.getD i.toNat fs
def dP : Ex := .mk 0 0 ⟨#[]⟩ []
def cz (e : Int) (s : St) : St := if s.bad = 0 then ⟨s.at_, e⟩ else s
def ay (first : Int) (s : St) : Bool × St := if 64 ≤ s.at_ - first then (false, cz 2 s) else (true, ⟨s.at_ + 1, s.bad⟩)
def ra (t : aZ) (bad : Int) : Nat → Int → Option Int
 | 0, _ => none
 | n + 1, op => if t.kind = 4 ∧ bad = 0 then (if dE (aT op) t.text then some op else ra t bad n (op + 1)) else none
def eJ (l : List aZ) (a b : Int) (s : St) : Option Int := ra (ah l s.at_) s.bad (b - a + 1).toNat a
def dp (op : Int) (e : Ex) : Ex := .mk op 0 ⟨#[]⟩ [e]
def cA (op : Int) (e r : Ex) : Ex := .mk op 0 ⟨#[]⟩ [e, r]
def fb (l : List aZ) (first a b : Int) (below : St → Ex × St) : Nat → Ex → St → Ex × St
 | 0, e, s => (e, s)
 | n + 1, e, s =>
  match eJ l a b s with
  | none => (e, s)
  | some op =>
   if (ay first s).1 = false then (e, (ay first s).2)
   else fb l first a b below n (cA op e (below (ay first s).2).1) (below (ay first s).2).2
def dM (l : List aZ) (first a b : Int) (below : St → Ex × St) (s : St) : Ex × St := fb l first a b below 66 (below s).1 (below s).2
def i7 (l : List aZ) (first : Int) (sum : St → Ex × St) (s : St) : Ex × St :=
 match eJ l 9 14 (sum s).2 with
 | none => sum s
 | some op =>
  if (ay first (sum s).2).1 = false then ((sum s).1, (ay first (sum s).2).2)
  else (cA op (sum s).1 (sum (ay first (sum s).2).2).1, (sum (ay first (sum s).2).2).2)
def i' (l : List aZ) (first : Int) (un : St → Ex × St) : St → Ex × St :=
 dM l first 16 16 (dM l first 15 15 (i7 l first (dM l first 4 5 (dM l first 6 8 un))))
def ee (t : aZ) : Bool := t.kind == 4 && dE t.text ⟨#[40]⟩
def eK (t : aZ) : Bool := t.kind == 4 && dE t.text ⟨#[41]⟩
def mS (l : List aZ) (first : Int) (un orr : St → Ex × St) (s : St) : Ex × St :=
 match eJ l 2 3 s with
 | some op =>
  if (ay first s).1 = false then (dP, (ay first s).2)
  else (dp op (un (ay first s).2).1, (un (ay first s).2).2)
 | none =>
  if s.bad ≠ 0 ∨ ee (ah l s.at_) = false ∧ (ah l s.at_).kind ≠ 2 ∧ (ah l s.at_).kind ≠ 1 then (dP, cz 11 s)
  else if (ay first s).1 = false then (dP, (ay first s).2)
  else if (ah l s.at_).kind = 2 then (.mk 0 (ah l s.at_).n ⟨#[]⟩ [], (ay first s).2)
  else if (ah l s.at_).kind = 1 then (.mk 1 0 (ah l s.at_).text [], (ay first s).2)
  else
   if (orr (ay first s).2).2.bad = 0 ∧ eK (ah l (orr (ay first s).2).2.at_) = false then (dP, cz 11 (orr (ay first s).2).2)
   else if (orr (ay first s).2).2.bad = 0 then ((orr (ay first s).2).1, (ay first (orr (ay first s).2).2).2)
   else orr (ay first s).2
def ll (l : List aZ) (first : Int) : Nat → St → Ex × St
 | 0 => fun s => (dP, s)
 | f + 1 => mS l first (ll l first f) (i' l first (ll l first f))
def cZ (l : List aZ) (a : Int) : Ex × Int × Int :=
 let p := i' l a (ll l a 66) ⟨a, 0⟩
 if p.2.bad ≠ 0 then (dP, p.2.bad, p.2.at_) else (p.1, 0, p.2.at_)
end Go.Proofs.YtgcfjkfipkfijaaGreatDoor
namespace Go.Proofs.YtgcfjkfipkfijaaGreatDoor
open Go Go.RowKit Tryz
theorem bP {k a b} (h : a = b) : Ending.returned (.int k a) = .returned (.int k b) := by rw [h]
theorem ba {a b} (h : a = b) : Ending.returned (.string a) = .returned (.string b) := by rw [h]
theorem vV (op w) : Calls prog 172 #[.int .i64 op] w fun e w' => e = .returned (.int .i64 (aH op)) ∧ w = w' := by
 go_enter func172, ntmps172
 go_wp2
 all_goals
  go_ret
  refine ⟨bP ?_, rfl⟩
  simp only [beq_iff_eq, beq_eq_false_iff_ne, ne_eq] at *
  unfold aH
  (repeat (first | rw [M_ (by omega)] | rw [K_ (by omega)]))
theorem lE (op w) : Calls prog 159 #[.int .i64 op] w fun e w' => e = .returned (.string (aT op)) ∧ w = w' := by
 go_enter func159, ntmps159
 go_wp2
 all_goals
  go_ret
  refine ⟨ba ?_, rfl⟩
  simp only [beq_iff_eq, beq_eq_false_iff_ne, ne_eq] at *
  unfold aT
  (repeat (first | rw [M_ (by omega)] | rw [K_ (by omega)]))
  all_goals rfl
end Go.Proofs.YtgcfjkfipkfijaaGreatDoor
namespace Go.Proofs.YtgcfjkfipkfijaaGreatDoor
open Go Go.RowKit Go.Lib Tryz
theorem iB {a b} (h : a = b) : Ending.returned (.int .i64 a) = .returned (.int .i64 b) := by rw [h]
theorem dj (r w) (h0 : -2147483648 ≤ r) (h1 : r ≤ 2147483647) : Calls prog 74 #[.int .i32 r] w fun e w' => e = .returned (.int .i64 (cO r)) ∧ w = w' := by
 by_cases hs : 32 < r ∧ r < 127
 ·obtain ⟨hs1, hs2⟩ := hs
  have hc := hid (fun w => Tryz.strings_IndexByte ⟨#[40, 41, 123, 125, 44, 59, 58, 61, 43, 45, 42, 47, 37, 60, 62, 33, 38, 124]⟩ r w)
  obtain ⟨x, hx⟩ := nm_ (Lib.indexByte gN r.toNat.toUInt8)
  have hX : Hid (Lib.indexByte gN r.toNat.toUInt8 = x) := hx
  have hc' : Hid (∀ w : World, Calls prog 75 #[.string ⟨#[40, 41, 123, 125, 44, 59, 58, 61, 43, 45, 42, 47, 37, 60, 62, 33, 38, 124]⟩, .int .u8 r] w fun e w' => e = .returned (.int .i64 x) ∧ w' = w) := by
   subst hx
   exact hc.out
  clear hc hx
  go_enter func74, ntmps74
  go_wp2_with (go_at_call 75; refine (hc'.out _).mono ?_; rintro e w' ⟨rfl, rfl⟩)
  all_goals
   go_ret
   refine ⟨iB ?_, rfl⟩
   simp only [beq_iff_eq, beq_eq_false_iff_ne, ne_eq] at *
   unfold cO
   rw [hX.out]
   (repeat (first | rw [M_ (by omega)] | rw [K_ (by omega)]))
 ·have hs' : r ≤ 32 ∨ 127 ≤ r := by omega
  clear hs
  go_enter func74, ntmps74
  go_wp2_with fail
  all_goals (first | (exfalso; omega) | skip)
  all_goals
   go_ret
   refine ⟨iB ?_, rfl⟩
   simp only [beq_iff_eq, beq_eq_false_iff_ne, ne_eq, bne_iff_ne, bne_eq_false_iff_eq] at *
   unfold cO
   (repeat (first | rw [M_ (by omega)] | rw [K_ (by omega)]))
end Go.Proofs.YtgcfjkfipkfijaaGreatDoor
namespace Go.Proofs.YtgcfjkfipkfijaaGreatDoor
open Go Go.RowKit Tryz
def mU : Nat := 5 + 1
structure bq (w : World) : Prop where
 utf : Lib.Utf8Tabs 0 1 w
 len : ∃ m, w.cell? ⟨2, 0, none⟩ = some (.int .i64 m)
 pow : Lib.TabIs prog w "internal/strconv.uint64pow10" .u64 Lib.pow10Tab
 size : mU ≤ w.heap.size
theorem lF : Tryz.prog.globalNamed "internal/strconv.uint64pow10" = some 3 := by kernel_rfl
theorem bq.keep {M w w'} (h : bq w) (s : Same M w w') (hm : ∀ k, k ∈ M → mU ≤ k) : bq w' := by
 have hb : ∀ k, k < mU → w'.heap[k]? = w.heap[k]? := fun k hk => s.block k (Y_ hk h.size) (fun hc => by have := hm k hc; omega)
 have hc : ∀ (p : Addr) (v : Value), p.block < mU → w.cell? p = some v → w'.cell? p = some v := fun p v hp hv => (World.cell?_of_block (w := w) (hb p.block hp)).trans hv
 refine ⟨⟨fun c hc' => hc _ _ (by simp [mU]) (h.utf.1 c hc'), fun i hi => ⟨hc _ _ (by simp [mU]) (h.utf.2 i hi).1, hc _ _ (by simp [mU]) (h.utf.2 i hi).2⟩⟩, ?_, ?_, d_ h.size s.size⟩
 ·obtain ⟨m, hm'⟩ := h.len
  exact ⟨m, hc _ _ (by simp [mU]) hm'⟩
 ·have := h.pow
  unfold Lib.TabIs World.var? at this ⊢
  rw [lF] at this ⊢
  simp only [Option.bind_some] at this ⊢
  rw [hb _ (by simp [mU])]
  exact this
theorem bq.below {w w'} (h : bq w) (b : Below w.heap.size w w') : bq w' := h.keep (M := []) (Same.of_below b) (fun _ hk => by simp at hk)
theorem bq.alloc {w} (h : bq w) (o) : bq (w.alloc o) := h.keep (M := []) ((Same.refl [] w).alloc o) (fun _ hk => by simp at hk)
end Go.Proofs.YtgcfjkfipkfijaaGreatDoor
