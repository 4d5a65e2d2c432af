/- Part 8 of the proof of rtexts_card; no conditions. -/
import Derived.Test.YtgcfjkfipkfijaaGreatDoorTx06
import Derived.Deep.AppendLies
import Derived.Deep.CutBlock
import Derived.Deep.DeepCutAuto
namespace Go.Proofs.YtgcfjkfipkfijaaGreatDoor
open Go Go.RowKit Go.Lib
variable {α : Type}
def RowF (d : Kind α) (P : Nat → Prop) (w : World) (B : Option Addr) (b : Nat) (xs : List α) : Prop := xs.length ≤ b ∧ ∀ M : List Nat, (∀ k, k ∈ M → P k) → d.Row M w B xs
theorem RowF.nil (d : Kind α) (P : Nat → Prop) (w : World) (B : Option Addr) (b : Nat) : RowF d P w B b [] := ⟨Nat.zero_le _, fun _ _ => Kind.Row.nil _ _ _ _⟩
theorem RowF.keep {d : Kind α} {P : Nat → Prop} {w w' : World} {B : Option Addr} {b : Nat} {xs : List α} {M : List Nat} (h : RowF d P w B b xs) (hs : Same M w w') (hM : ∀ k, k ∈ M → P k) : RowF d P w' B b xs :=
 ⟨h.1, fun M' hM' => by
  have h1 := h.2 (M ++ M') (fun k hk => (List.mem_append.1 hk).elim (hM k) (hM' k))
  exact (h1.keep (hs.mono (fun x hx => List.mem_append.2 (.inl hx)))).less (fun k hk => .inl (List.mem_append.2 (.inr hk)))⟩
theorem RowF.below {d : Kind α} {P : Nat → Prop} {w w' : World} {B : Option Addr} {b : Nat} {xs : List α} (h : RowF d P w B b xs) (hs : Below w.heap.size w w') : RowF d P w' B b xs := h.keep (M := []) (Same.of_below hs) (fun _ hk => by simp at hk)
theorem avoid_more {P Q : Nat → Prop} {w : World} {R : List Nat → Prop} (hR : ∀ {M M'}, R M → (∀ k, k ∈ M' → k ∈ M ∨ w.heap.size ≤ k) → R M') (h : ∀ M : List Nat, (∀ k, k ∈ M → P k) → R M) (hq : ∀ k, Q k → P k ∨ w.heap.size ≤ k) :
  ∀ M : List Nat, (∀ k, k ∈ M → Q k) → R M := by
 classical
 exact fun M hM => hR (h (M.filter (fun k => decide (P k))) (fun k hk => by simpa using (List.mem_filter.1 hk).2)) (fun k hk => (hq k (hM k hk)).elim (fun hp => .inl (List.mem_filter.2 ⟨hk, by simpa using hp⟩)) .inr)
theorem RowF.more {d : Kind α} {P Q : Nat → Prop} {w : World} {B : Option Addr} {b : Nat} {xs : List α} (h : RowF d P w B b xs) (hq : ∀ k, Q k → P k ∨ w.heap.size ≤ k) : RowF d Q w B b xs :=
 ⟨h.1, avoid_more (R := fun M => d.Row M w B xs) (fun h1 h2 => h1.less h2) h.2 hq⟩
def Av (d : Kind α) (P : Nat → Prop) (w : World) (x : α) (cs : List Value) : Prop := ∀ M : List Nat, (∀ k, k ∈ M → P k) → d.rep M w x cs
theorem Av.keep {d : Kind α} {P : Nat → Prop} {w w' : World} {x : α} {cs : List Value} {M : List Nat} (h : Av d P w x cs) (hs : Same M w w') (hM : ∀ k, k ∈ M → P k) : Av d P w' x cs := fun M' hM' => by
 have h1 := h (M ++ M') (fun k hk => (List.mem_append.1 hk).elim (hM k) (hM' k))
 exact d.less (d.keep h1 (hs.mono (fun x hx => List.mem_append.2 (.inl hx)))) (fun k hk => .inl (List.mem_append.2 (.inr hk)))
theorem Av.below {d : Kind α} {P : Nat → Prop} {w w' : World} {x : α} {cs : List Value} (h : Av d P w x cs) (hs : Below w.heap.size w w') : Av d P w' x cs := h.keep (M := []) (Same.of_below hs) (fun _ hk => by simp at hk)
theorem Av.more {d : Kind α} {P Q : Nat → Prop} {w : World} {x : α} {cs : List Value} (h : Av d P w x cs) (hq : ∀ k, Q k → P k ∨ w.heap.size ≤ k) : Av d Q w x cs :=
 avoid_more (R := fun M => d.rep M w x cs) (fun h1 h2 => d.less h1 h2) h hq
structure GrowB (d : Kind α) (T : TypeId) (b0 : Nat) (P : Nat → Prop) (w : World) (B : Option Addr) (n b : Nat) (xs : List (α × List Value)) : Prop where
 len : xs.length = n
 own : w.ownsRow b0 T d.sz (.slice B n b) n (xs.flatMap (·.2))
 els : ∀ q, q ∈ xs → Av d (fun k => P k ∨ (Value.slice B n b).ownBlock = some k) w q.1 q.2
theorem own_same' {w w1 : World} {base : Nat} {M : List Nat} {e : TypeId} {size : Nat} {v : Value} {n : Nat} {xs : List Value} (h : w.ownsRow base e size v n xs) (hs : Same M w w1) (hM : ∀ k, k ∈ M → v.ownBlock ≠ some k) : w1.ownsRow base e size v n xs := by
 refine ⟨h.1, ?_⟩
 rcases h.2 with h' | ⟨g, cap, cur, hv, hg, hh, r⟩
 ·exact .inl h'
 ·exact .inr ⟨g, cap, cur, hv, hg, hs.heap (fun hc => hM _ hc (by rw [hv]; rfl)) hh, r⟩
namespace GrowB
variable {d : Kind α} {T : TypeId} {b0 : Nat} {P Q : Nat → Prop} {w w' : World} {B : Option Addr} {n b : Nat} {xs : List (α × List Value)}
theorem nil (d : Kind α) (T : TypeId) (b0 : Nat) (P : Nat → Prop) (w : World) : GrowB d T b0 P w none 0 0 [] := ⟨rfl, ⟨by simp, .inl ⟨rfl, rfl⟩⟩, fun q hq => by simp at hq⟩
theorem keep {M : List Nat} (h : GrowB d T b0 P w B n b xs) (hs : Same M w w') (hM : ∀ k, k ∈ M → P k) (hM' : ∀ k, k ∈ M → (Value.slice B n b).ownBlock ≠ some k) : GrowB d T b0 P w' B n b xs :=
 ⟨h.len, own_same' h.own hs hM', fun q hq => (h.els q hq).keep hs (fun k hk => .inl (hM k hk))⟩
theorem below (h : GrowB d T b0 P w B n b xs) (hs : Below w.heap.size w w') : GrowB d T b0 P w' B n b xs := h.keep (M := []) (Same.of_below hs) (fun _ hk => by simp at hk) (fun _ hk => by simp at hk)
theorem more (h : GrowB d T b0 P w B n b xs) (hq : ∀ k, Q k → P k ∨ w.heap.size ≤ k) : GrowB d T b0 Q w B n b xs :=
 ⟨h.len, h.own, fun q hq' => (h.els q hq').more (fun k hk => hk.elim (fun hk => (hq k hk).elim (fun hp => .inl (.inl hp)) .inr) (fun he => .inl (.inr he)))⟩
theorem blk (h : GrowB d T b0 P w B n b xs) (k : Nat) (hk : (Value.slice B n b).ownBlock = some k) : b0 ≤ k ∧ k < w.heap.size := own_block h.own k hk
theorem push {w6 : World} {g cap : Nat} {x : α} {vs : List Value} {ob : Obj} (h : GrowB d T b0 P w B n b xs) (hx : Av d (fun k => P k ∨ (Value.slice B n b).ownBlock = some k) w x vs)
  (hg : (w.alloc ob).grownBy w6 (Value.slice B n b).ownBlock) (hown : w6.ownsRow b0 T d.sz (.slice (some ⟨g, 0, none⟩) (n + 1) cap) (n + 1) (xs.flatMap (·.2) ++ vs))
  (hat : (Value.slice B n b).ownBlock = some g ∨ g = w.heap.size + 1) : GrowB d T b0 P w6 (some ⟨g, 0, none⟩) (n + 1) cap (xs ++ [(x, vs)]) := by
 refine ⟨by rw [List.length_append, h.len]; rfl, by rw [List.flatMap_append]; simpa using hown, fun q hq => ?_⟩
 have hA : Av d (fun k => P k ∨ (Value.slice B n b).ownBlock = some k) w q.1 q.2 := by
  rcases List.mem_append.1 hq with hq | hq
  ·exact h.els q hq
  ·simp at hq; subst hq; exact hx
 have h1 : Av d (fun k => (P k ∨ (Value.slice B n b).ownBlock = some k) ∨ k = g) w q.1 q.2 := hA.more (fun k hk => hk.elim .inl (fun e => by
  rcases hat with hat | hat
  ·exact .inl (.inr (by rw [hat, e]))
  ·exact .inr (by omega)))
 have h2 := (h1.below ((Below.refl w.heap.size w).alloc (Nat.le_refl _) ob)).keep (M := (Value.slice B n b).ownBlock.toList) ((Same.refl _ _).grown hg (fun k hk => .inl (by rw [hk]; simp))) (fun k hk => .inl (.inr (by simpa using hk)))
 exact h2.more (fun k hk => .inl (hk.elim (fun hp => .inl (.inl hp)) (fun he => .inr (by have : some g = some k := he; exact (Option.some.inj this).symm))))
theorem out (h : GrowB d T b0 P w B n b xs) (hP : ∀ k, P k → k < b0) (hl : ∀ q, q ∈ xs → q.2.length = d.sz) : RowF d P w B b (xs.map (·.1)) := by
 have hl' := h.len
 rcases h.own.2 with ⟨h', h0⟩ | ⟨g, cap, cur, hv, hg, hh, h1, h2, h3, h4⟩
 ·have : xs = [] := List.eq_nil_of_length_eq_zero (by omega)
  subst this
  exact RowF.nil _ _ _ _ _
 ·injection hv with e1 _ e3
  subst e1 e3
  refine ⟨by rw [List.length_map]; omega, fun M hM => ⟨by rw [List.length_map]; simp only [maxLen] at h2; omega, fun hn => ⟨⟨g, 0, none⟩, rfl, fun hc => ?_, (Array.getElem?_eq_some_iff.1 hh).1, fun i hi => ?_⟩⟩⟩
  ·have := hP _ (hM _ hc)
   simp at this
   omega
  ·have hi' : i < xs.length := by simpa using hi
   have hx := h.els _ (List.getElem_mem hi')
   refine ⟨xs[i].2, by rw [List.getElem_map]; exact hx M (fun k hk => .inl (hM k hk)), fun j u hu => ?_⟩
   have hj : j < d.sz := by rw [← hl _ (List.getElem_mem hi')]; exact (List.getElem?_eq_some_iff.1 hu).1
   exact h.own.cells (g := g) rfl (i * d.sz + j) u (by rw [flat_at xs d.sz hl i j hi' hj]; exact hu)
where flat_at : ∀ (xs : List (α × List Value)) (m : Nat), (∀ q, q ∈ xs → q.2.length = m) → ∀ (i j : Nat) (h : i < xs.length), j < m → (xs.flatMap (·.2))[i * m + j]? = xs[i].2[j]?
 | x :: l, m, hf, 0, j, _, hj => by
  rw [List.flatMap_cons, Nat.zero_mul, Nat.zero_add, List.getElem?_append_left (by rw [hf x (by simp)]; exact hj)]
  rfl
 | x :: l, m, hf, i + 1, j, h, hj => by
  rw [List.flatMap_cons, List.getElem?_append_right (by rw [hf x (by simp), Nat.succ_mul]; omega), hf x (by simp)]
  have : (i + 1) * m + j - m = i * m + j := by rw [Nat.succ_mul]; omega
  rw [this, flat_at l m (fun q hq => hf q (by simp [hq])) i j (by simpa using h) hj]
  rfl
end GrowB
theorem wpList_grow {Pr : Program} {ops : Array Oper} {rest : List Oper} {o : Oper} {a : Act} {Q : Exit → Act → World → Prop} {d : Kind α} {e : TypeId} {b0 : Nat} {P : Nat → Prop} {w : World} {B : Option Addr} {n b : Nat} {xs : List (α × List Value)} (hgd : o.guard = none) (s x : Operand) (t : TypeId)
  (ho : o.op = .call { callee := .builtin .append, args := #[s, x], argTypes := #[t, t] }) (z : Value) (bytes : Nat) (ht : Pr.underlying t = some (.slice e)) (hi : (Pr.info? e).map (fun i => (i.zero, i.size, i.bytes)) = some (some z, d.sz, bytes))
  (hzs : z.cells.size = d.sz) (hsz : 0 < d.sz) (hs : a.eval s = .slice B n b) (h : GrowB d e b0 P w B n b xs) (y : α) (cs : Array Value) (ty : TypeId) (hx : a.eval x = .slice (some ⟨w.heap.size, 0, none⟩) 1 1)
  (hl : cs.size = d.sz) (h1 : ∀ u ∈ cs.toList, u.oneCell' = true) (hy : Av d (fun k => P k ∨ (Value.slice B n b).ownBlock = some k) w y cs.toList) (h63 : n + 1 ≤ maxLen) (hbytes : (n + 1) * bytes ≤ 140737488355328) (hb0 : b0 ≤ w.heap.size)
  (k : ∀ g cap w', GrowB d e b0 P w' (some ⟨g, 0, none⟩) (n + 1) cap (xs ++ [(y, cs.toList)]) → Same (Value.slice B n b).ownBlock.toList w w' → b0 ≤ g ∧ g < w'.heap.size ∧ ((Value.slice B n b).ownBlock = some g ∨ w.heap.size < g) →
    wpList Pr ops Q rest (a.put o.dst (.slice (some ⟨g, 0, none⟩) (n + 1) cap)) w') : wpList Pr ops Q (o :: rest) a (w.alloc (.cells cs ty)) := by
 obtain ⟨i0, hi0, hz0, hz1, hz2⟩ := info_parts hi
 refine wpList_append_lies _ hgd s x t ho b0 e i0 z d.sz bytes ht hi0 hz0 hz1 hz2 hzs hsz (.slice B n b) n (xs.flatMap (·.2)) hs (h.own.alloc _) ⟨w.heap.size, 0, none⟩ 1 1 cs.toList hx (by rw [Nat.one_mul]; simpa using hl) ?_ h1 (by decide) h63 hbytes (by simp; omega) (w.heap.size + 1) (by simp) ?_
 ·intro j u hu
  have := blk_cell (heap_alloc_new w (.cells cs ty)) j
  have e : (⟨w.heap.size, 0, none⟩ : Addr).add j = ⟨w.heap.size, j, none⟩ := by unfold Addr.add; split <;> simp_all
  rw [e, this]
  simpa using hu
 ·intro g cap w6 hown hg hat hlt
  have hgb := own_block hown g rfl
  have hs6 : Same (Value.slice B n b).ownBlock.toList w w6 := ((Same.refl _ w).alloc _).grown hg (fun k hk => .inl (by rw [hk]; simp))
  exact k g cap w6 (h.push hy hg hown hat) hs6 ⟨hgb.1, hgb.2, hat.imp id (fun e => by omega)⟩
def sE (s : ByteArray) : ByteArray × List Value := (s, [.string s])
theorem Av.str (P : Nat → Prop) (w : World) (s : ByteArray) : Av Kind.str P w s [.string s] := fun _ _ => rfl
theorem flat_sE : ∀ ss : List ByteArray, (ss.map sE).flatMap (·.2) = ss.map (Value.string ·)
 | [] => rfl
 | y :: ys => by rw [List.map_cons, List.flatMap_cons, flat_sE ys]; rfl
theorem GrowB.strs {T : TypeId} {b0 : Nat} {P : Nat → Prop} {w : World} {B : Option Addr} {n b : Nat} {ss : List ByteArray} (h : GrowB Kind.str T b0 P w B n b (ss.map sE)) : StrR w B ss := by
 have hl := h.len
 rw [List.length_map] at hl
 rcases h.own.2 with ⟨h', h0⟩ | ⟨g, cap, cur, hv, hg, hh, h1, h2, h3, h4⟩
 ·have : ss = [] := List.eq_nil_of_length_eq_zero (by omega)
  subst this
  exact StrR.nil _ _
 ·injection hv with e1 _ e3
  subst e1 e3
  refine ⟨by simp only [maxLen] at h2; omega, fun _ => ⟨g, 0, rfl, fun j hj => ?_⟩⟩
  have e := flat_sE ss
  have := h.own.cells (g := g) rfl j (.string (ss.getD j ByteArray.empty)) (by rw [e]; simp [List.getElem?_eq_getElem hj])
  rw [Nat.zero_add]
  by_cases hj0 : j = 0
  ·subst hj0; exact this
  ·simpa [Addr.add, hj0] using this
end Go.Proofs.YtgcfjkfipkfijaaGreatDoor
namespace Go.Proofs.YtgcfjkfipkfijaaGreatDoor
open Go Go.RowKit Go.Lib
def prmK : Kind Prm := Kind.iso (.pair .str (.pair (.int .i64) .bool)) (fun p => (p.name, p.n, p.scaled))
def prmE (p : Prm) : Prm × List Value := (p, [.string p.name, .int .i64 p.n, .bool p.scaled])
theorem Av.prm (P : Nat → Prop) (w : World) (p : Prm) : Av prmK P w p [.string p.name, .int .i64 p.n, .bool p.scaled] := fun _ _ => ⟨[_], _, rfl, rfl, [_], _, rfl, rfl, rfl⟩
theorem GrowB.keepV {α : Type} {d : Kind α} {T : TypeId} {b0 : Nat} {P : Nat → Prop} {w w' : World} {B : Option Addr} {n b : Nat} {xs : List (α × List Value)} {M : List Nat} (h : GrowB d T b0 P w B n b xs) (hv : ∀ q, q ∈ xs → ∀ P w, Av d P w q.1 q.2) (hs : Same M w w')
  (hM' : ∀ k, k ∈ M → (Value.slice B n b).ownBlock ≠ some k) : GrowB d T b0 P w' B n b xs := ⟨h.len, own_same' h.own hs hM', fun q hq => hv q hq _ _⟩
theorem GrowB.keepP {T : TypeId} {b0 : Nat} {P : Nat → Prop} {w w' : World} {B : Option Addr} {n b : Nat} {ps : List Prm} {M : List Nat} (h : GrowB prmK T b0 P w B n b (ps.map prmE)) (hs : Same M w w')
  (hM' : ∀ k, k ∈ M → (Value.slice B n b).ownBlock ≠ some k) : GrowB prmK T b0 P w' B n b (ps.map prmE) := h.keepV (fun q hq P w => by obtain ⟨p, _, rfl⟩ := List.mem_map.1 hq; exact Av.prm P w p) hs hM'
theorem GrowB.keepS {T : TypeId} {b0 : Nat} {P : Nat → Prop} {w w' : World} {B : Option Addr} {n b : Nat} {ss : List ByteArray} {M : List Nat} (h : GrowB Kind.str T b0 P w B n b (ss.map sE)) (hs : Same M w w')
  (hM' : ∀ k, k ∈ M → (Value.slice B n b).ownBlock ≠ some k) : GrowB Kind.str T b0 P w' B n b (ss.map sE) := h.keepV (fun q hq P w => by obtain ⟨p, _, rfl⟩ := List.mem_map.1 hq; exact Av.str P w p) hs hM'
theorem info_str : (Tryz.prog.info? 9).map (fun i => (i.zero, i.size, i.bytes)) = some (some (.string ⟨#[]⟩), 1, 16) := by kernel_rfl
theorem info_prm : (Tryz.prog.info? 71).map (fun i => (i.zero, i.size, i.bytes)) = some (some (.agg #[.string ⟨#[]⟩, .int .i64 0, .bool false]), 3, 32) := by kernel_rfl
structure PrmW (l : List Tok) (g : Nat) (A : Option Addr) (c : Nat) (w0 wr : World) (B : Option Addr) (b : Nat) (V : Option Addr) (v : Nat) (ps : List Prm) (s : RS) : Prop where
 rows : GrowB prmK 71 w0.heap.size (fun k => k < w0.heap.size) wr B ps.length b (ps.map prmE)
 names : GrowB Kind.str 9 w0.heap.size (fun k => k < w0.heap.size) wr V ps.length v ((ps.map (·.name)).map sE)
 apart : ∀ k, (Value.slice B ps.length b).ownBlock = some k → (Value.slice V ps.length v).ownBlock ≠ some k
 rdr : Rdr l g A c wr s
 same : Same [g] w0 wr
def PrmPost (g : Nat) (A : Option Addr) (n c : Nat) (p : List Prm × RS) (w : World) (r : Ending) (w' : World) : Prop :=
 ∃ B b, r = .returned (.slice B p.1.length b) ∧ RowF prmK (fun k => k < w.heap.size) w' B b p.1 ∧ RdP w' g A n c p.2 ∧ Same [g] w w'
theorem PrmW.post {l : List Tok} {g c b v : Nat} {A B V : Option Addr} {w0 wr : World} {ps : List Prm} {s : RS} (h : PrmW l g A c w0 wr B b V v ps s) : PrmPost g A l.length c (ps, s) w0 (.returned (.slice B ps.length b)) wr := by
 have h1 := h.rows.out (fun _ h => h) (fun q hq => by obtain ⟨p, _, rfl⟩ := List.mem_map.1 hq; rfl)
 rw [List.map_map, show ((fun q : Prm × List Value => q.1) ∘ prmE) = id from rfl, List.map_id] at h1
 exact ⟨B, b, rfl, h1, h.rdr.rd, h.same⟩
theorem PrmW.step {l : List Tok} {g c b v : Nat} {A B V : Option Addr} {w0 wr w' : World} {ps : List Prm} {s s' : RS} (h : PrmW l g A c w0 wr B b V v ps s) (hg : g < w0.heap.size) (hs : Same [g] wr w') (hr : RdP w' g A l.length c s') (hi : InR l s') : PrmW l g A c w0 w' B b V v ps s' :=
 ⟨h.rows.keepP hs (fun k hk e => by simp at hk; have := (h.rows.blk k e).1; omega), h.names.keepS hs (fun k hk e => by simp at hk; have := (h.names.blk k e).1; omega), h.apart, h.rdr.next hr hs hi, h.same.then_ hs⟩
structure PrmM (l : List Tok) (g : Nat) (A : Option Addr) (c : Nat) (w0 wr : World) (B : Option Addr) (b : Nat) (V : Option Addr) (v : Nat) (ps : List Prm) (K : Nat) (p : Prm) (s : RS) : Prop where
 rows : GrowB prmK 71 w0.heap.size (fun k => k < w0.heap.size) wr B ps.length b (ps.map prmE)
 names : GrowB Kind.str 9 w0.heap.size (fun k => k < w0.heap.size) wr V (ps.length + 1) v ((ps.map (·.name) ++ [p.name]).map sE)
 apart : ∀ k, (Value.slice B ps.length b).ownBlock = some k → (Value.slice V (ps.length + 1) v).ownBlock ≠ some k
 box : wr.heap[K]? = some (.cells #[.string p.name, .int .i64 p.n, .bool p.scaled] 71 (0, 0))
 far : w0.heap.size ≤ K ∧ (Value.slice B ps.length b).ownBlock ≠ some K ∧ (Value.slice V (ps.length + 1) v).ownBlock ≠ some K
 rdr : Rdr l g A c wr s
 same : Same [g] w0 wr
 lt : g < w0.heap.size
 row : tokK.Row [g] w0 A l
section
variable {l : List Tok} {g c b v K : Nat} {A B V : Option Addr} {w0 wr w' : World} {ps : List Prm} {p : Prm} {s s' : RS}
theorem PrmM.step (h : PrmM l g A c w0 wr B b V v ps K p s) (hs : Same [g] wr w') (hr : RdP w' g A l.length c s') (hi : InR l s') : PrmM l g A c w0 w' B b V v ps K p s' :=
 have hg := h.lt
 ⟨h.rows.keepP hs (fun k hk e => by simp at hk; have := (h.rows.blk k e).1; omega), h.names.keepS hs (fun k hk e => by simp at hk; have := (h.names.blk k e).1; omega), h.apart, hs.heap (by have := h.far.1; simp; omega) h.box, h.far, h.rdr.next hr hs hi, h.same.then_ hs, h.lt, h.row⟩
theorem PrmM.below (h : PrmM l g A c w0 wr B b V v ps K p s) (hb : Below wr.heap.size wr w') : PrmM l g A c w0 w' B b V v ps K p s := h.step (Same.of_below hb) (h.rdr.step hb).rd h.rdr.inr
theorem PrmM.put (h : PrmM l g A c w0 wr B b V v ps K p s) (i : Nat) (x : Value) (q : Prm) (hq : q.name = p.name) (hx : (#[.string p.name, .int .i64 p.n, .bool p.scaled] : Array Value).setIfInBounds i x = #[.string q.name, .int .i64 q.n, .bool q.scaled]) : PrmM l g A c w0 (wr.setCell ⟨K, i, none⟩ x) B b V v ps K q s := by
 have hs : Same [K] wr (wr.setCell ⟨K, i, none⟩ x) := (Same.refl [K] wr).setCell (.inl (by simp)) _
 have hg := h.lt
 have hf := h.far
 have hs0 := h.same.setCell (p := ⟨K, i, none⟩) (.inr hf.1) x
 refine ⟨h.rows.keepP hs (fun k hk e => by simp at hk; subst hk; exact hf.2.1 e), by rw [hq]; exact h.names.keepS hs (fun k hk e => by simp at hk; subst hk; exact hf.2.2 e), h.apart, ?_, hf, ?_, hs0, hg, h.row⟩
 ·rw [← hx]; exact blk_set h.box i x
 ·exact ⟨hs.heap (by simp; omega) h.rdr.rd, h.row.keep hs0, h.rdr.cap, h.rdr.inr⟩
theorem PrmW.named {g2 cap : Nat} {w5 w6 : World} {nm : ByteArray} (h : PrmW l g A c w0 w5 B b V v ps s) (hg : g < w0.heap.size) (hrow : tokK.Row [g] w0 A l)
  (hk : w5.heap[K]? = some (.cells #[.string nm, .int .i64 0, .bool false] 71 (0, 0)) ∧ w0.heap.size ≤ K ∧ (∀ k, (Value.slice B ps.length b).ownBlock = some k → k < K) ∧ (∀ k, (Value.slice V ps.length v).ownBlock = some k → k < K))
  (hG : GrowB Kind.str 9 w0.heap.size (fun k => k < w0.heap.size) w6 (some ⟨g2, 0, none⟩) (ps.length + 1) cap ((ps.map (·.name)).map sE ++ [(nm, [.string nm])])) (hS : Same (Value.slice V ps.length v).ownBlock.toList w5 w6)
  (hg2 : w0.heap.size ≤ g2 ∧ g2 < w6.heap.size ∧ ((Value.slice V ps.length v).ownBlock = some g2 ∨ w5.heap.size < g2)) : PrmM l g A c w0 w6 B b (some ⟨g2, 0, none⟩) cap ps K ⟨nm, 0, false⟩ s := by
 obtain ⟨hk, hK, hkB, hkV⟩ := hk
 have hS0 : Same [g] w0 w6 := h.same.trans hS (fun x hx => .inr (h.names.blk x (by simpa using hx)).1)
 have hkl := blk_lt hk
 refine ⟨h.rows.keepP hS (fun k hk e => h.apart k e (by simpa using hk)), ?_, fun k hk e => ?_, hS.heap (fun hc => by have := hkV K (by simpa using hc); omega) hk, ⟨hK, fun e => by have := hkB K e; omega, fun e => ?_⟩, ?_, hS0, hg, hrow⟩
 ·rw [List.map_append]; exact hG
 ·obtain rfl : g2 = k := by have : some g2 = some k := e; exact Option.some.inj this
  rcases hg2.2.2 with h1 | h1
  ·exact h.apart g2 hk h1
  ·have := (h.rows.blk g2 hk).2; omega
 ·obtain rfl : g2 = K := by have : some g2 = some K := e; exact Option.some.inj this
  rcases hg2.2.2 with h1 | h1
  ·have := hkV g2 h1; omega
  ·omega
 ·exact ⟨hS.heap (fun hc => by have := (h.names.blk g (by simpa using hc)).1; omega) h.rdr.rd, hrow.keep hS0, h.rdr.cap, h.rdr.inr⟩
theorem PrmM.done {g3 cap3 : Nat} {w6 : World} (h : PrmM l g A c w0 wr B b V v ps K p s) (hG : GrowB prmK 71 w0.heap.size (fun k => k < w0.heap.size) w6 (some ⟨g3, 0, none⟩) (ps.length + 1) cap3 (ps.map prmE ++ [(p, [.string p.name, .int .i64 p.n, .bool p.scaled])])) (hS : Same (Value.slice B ps.length b).ownBlock.toList wr w6)
  (hg3 : w0.heap.size ≤ g3 ∧ g3 < w6.heap.size ∧ ((Value.slice B ps.length b).ownBlock = some g3 ∨ wr.heap.size < g3)) : PrmW l g A c w0 w6 (some ⟨g3, 0, none⟩) cap3 V v (ps ++ [p]) s := by
 have hl : (ps ++ [p]).length = ps.length + 1 := by simp
 have hlt := h.lt
 have hS0 : Same [g] w0 w6 := h.same.trans hS (fun x hx => .inr (h.rows.blk x (by simpa using hx)).1)
 refine ⟨by rw [hl, List.map_append]; exact hG, ?_, fun k hk e => ?_, ⟨hS.heap (fun hc => by have := (h.rows.blk g (by simpa using hc)).1; omega) h.rdr.rd, h.row.keep hS0, h.rdr.cap, h.rdr.inr⟩, hS0⟩
 ·rw [hl, List.map_append]
  exact h.names.keepS hS (fun k hk e => h.apart k (by simpa using hk) e)
 ·rw [hl] at hk e
  obtain rfl : g3 = k := by have : some g3 = some k := hk; exact Option.some.inj this
  rcases hg3.2.2 with h1 | h1
  ·exact h.apart g3 h1 e
  ·have := (h.names.blk g3 e).2; omega
end
theorem run_field_tok (a b c d : Value) (w : World) : (Instr.field 60 (.agg #[a, b, c, d]) 0).run Tryz.prog w = .ok a w ∧ (Instr.field 60 (.agg #[a, b, c, d]) 2).run Tryz.prog w = .ok c w ∧ (Instr.field 60 (.agg #[a, b, c, d]) 3).run Tryz.prog w = .ok d w := ⟨by kernel_rfl, by kernel_rfl, by kernel_rfl⟩
set_option maxHeartbeats 8000000 in
set_option maxRecDepth 100000 in
theorem params_any {l : List Tok} {g c : Nat} {A : Option Addr} {s : RS} {w : World} (T : Toks l) (h : Rdr l g A c w s) : Calls Tryz.prog 26 #[.pointer (some ⟨g, 0, none⟩)] w (PrmPost g A l.length c (prmF l 6 [] s) w) := by
 obtain ⟨ANS, hANS⟩ : ∃ r, prmF l 6 [] s = r := ⟨_, rfl⟩
 rw [hANS]
 have HANS := Lib.hid hANS
 have H := Lib.hid h
 have hg := h.lt
 have hlr := h.row.1
 clear hANS h
 go_enter Tryz.func26, Tryz.ntmps26
 go_wp2_with fail
 go_loopg [3, 4] 8 (fun k s3 s4 wr => ∃ n B b V v ps s', s3 = .slice B ps.length b ∧ s4 = .slice V ps.length v ∧ PrmW l g A c w wr B b V v ps s' ∧ n < k ∧ n + ps.length = 6 ∧ ps.length ≤ 4 ∧ prmF l n ps s' = ANS)
 case atStart => exact ⟨6, none, 0, none, 0, [], s, rfl, rfl, ⟨GrowB.nil _ _ _ _ _, GrowB.nil _ _ _ _ _, fun k hk => by simp [Value.ownBlock] at hk, H.out, Same.refl _ _⟩, by omega, rfl, by simp, HANS.out⟩
 case round =>
  obtain ⟨n, B, b, V, v, ps, s', rfl, rfl, hW, hnk, hnl, hl4, hans⟩ := hrel
  obtain ⟨gk, rfl⟩ : ∃ k, gk = k + 1 := ⟨gk - 1, by omega⟩
  obtain ⟨m, rfl⟩ : ∃ m, n = m + 1 := ⟨n - 1, by omega⟩
  have HW := Lib.hid hW
  have HIK := Lib.hid (isKey_any T hW.rdr wParam)
  rw [prmF] at hans
  clear hW
  cases hk : rIsKey l wParam s' with
  | false =>
   rw [hk] at HIK hans
   rw [if_neg (by decide)] at hans
   have HA := Lib.hid hans
   clear hk hans
   go_wp2_with fail
   refine HIK.out.mono ?_
   rintro e w2 ⟨rfl, hb2⟩
   have HB2 := Lib.hid hb2
   clear hb2
   go_wp2_with fail
   go_ret
   rw [← HA.out]
   exact (HW.out.step (by omega) (Same.of_below HB2.out) (HW.out.rdr.step HB2.out).rd HW.out.rdr.inr).post
  | true =>
   rw [hk] at HIK hans
   rw [if_pos rfl] at hans
   have hkk := rIsKey_kind (w := wParam) (by decide) hk
   have hon := rPass_on T.fin HW.out.rdr.inr (by rw [hkk.1]; decide)
   have HON := Lib.hid hon
   have HKK := Lib.hid hkk
   clear hk hon hkk
   by_cases h4 : ps.length = 4
   ·have h4b : ((ps.length : Int) == 4) = true := by rw [beq_iff_eq]; omega
    rw [if_pos h4] at hans
    have HA := Lib.hid hans
    clear hans h4
    go_wp2_with fail
    refine HIK.out.mono ?_
    rintro e w2 ⟨rfl, hb2⟩
    have H2 := Lib.hid (HW.out.rdr.step hb2)
    have HB2 := Lib.hid hb2
    clear hb2
    go_wp2_with fail
    refine (rfail_any H2.out 2).mono ?_
    rintro e w3 ⟨rfl, hr3, hs3⟩
    have H3 := Lib.hid (⟨hr3, hs3⟩ : _ ∧ _)
    clear hr3 hs3
    go_wp2_with fail
    go_ret
    rw [← HA.out]
    exact ⟨none, 0, rfl, RowF.nil _ _ _ _ _, H3.out.1, (HW.out.same.below_ HB2.out).then_ H3.out.2⟩
   ·have h4b : ((ps.length : Int) == 4) = false := by rw [beq_eq_false_iff_ne]; omega
    rw [if_neg h4] at hans
    have hl3 : ps.length ≤ 3 := by omega
    obtain ⟨a, ha⟩ : ∃ a, rName l (ps.map (·.name)) (rPass s') = a := ⟨_, rfl⟩
    obtain ⟨s7, h7⟩ : ∃ x, rMust l ⟨#[58, 61]⟩ a.2 = x := ⟨_, rfl⟩
    obtain ⟨c8, h8⟩ : ∃ x, rTakes l ⟨#[45]⟩ s7 = x := ⟨_, rfl⟩
    obtain ⟨e11, h11⟩ : ∃ x, prmN l c8.1 c8.2 = x := ⟨_, rfl⟩
    obtain ⟨f12, h12⟩ : ∃ x, rTakes l wScaled e11.2 = x := ⟨_, rfl⟩
    obtain ⟨s13, h13⟩ : ∃ x, rMust l ⟨#[59]⟩ f12.2 = x := ⟨_, rfl⟩
    have hans' : prmF l m (ps ++ [⟨a.1, e11.1, f12.1⟩]) s13 = ANS := by rw [← hans, ← h13, ← h12, ← h11, ← h8, ← h7, ← ha]; rfl
    have HA := Lib.hid hans'
    have HQ := Lib.hid (⟨ha, h7, h8, h11, h12, h13⟩ : _ ∧ _ ∧ _ ∧ _ ∧ _ ∧ _)
    clear hans hans' h4 ha h7 h8 h11 h12 h13 hl4
    go_wp2_with fail
    refine HIK.out.mono ?_
    rintro e w2 ⟨rfl, hb2⟩
    have HW2 := Lib.hid (HW.out.step (by omega) (Same.of_below hb2) (HW.out.rdr.step hb2).rd HW.out.rdr.inr)
    obtain ⟨⟨c0, c1, c2, c3⟩, f0, f1, f2, f3⟩ := blk4 HW2.out.rdr.rd
    have hadd : IntKind.i64.wrap (s'.at_ + 1) = s'.at_ + 1 := by have h1 := HW2.out.rdr.inr.1; have h2 := HW2.out.rdr.inr.2.1; exact IntWalk.i64_in _ (by omega)
    have HW3 := Lib.hid (HW2.out.step (s' := rPass s') (by omega) ((Same.refl [g] w2).setCell (p := ⟨g, 1, none⟩) (.inl (by simp)) (.int .i64 (s'.at_ + 1))) (HW2.out.rdr.set 1 _) HON.out.1)
    have HNM := Lib.hid (rname_any T HW3.out.rdr (cc := v) (had := ps.map (·.name)) HW3.out.names.strs)
    rw [List.length_map, HQ.out.1] at HNM
    clear hb2
    go_wp2_with fail
    refine HNM.out.mono ?_
    rintro e w4 ⟨rfl, hr4, hs4⟩
    have hin4 : InR l a.2 := by have := (rName_on T.fin (ps.map (·.name)) HW3.out.rdr.inr).1; rwa [HQ.out.1] at this
    have HW4 := Lib.hid (HW3.out.step (by omega) hs4 hr4 hin4)
    clear hr4 hs4 hin4 c0 c1 c2 c3 f0 f1 f2 f3 hadd
    go_upto_region 9 with fail
    obtain ⟨K, hK⟩ : ∃ K, w4.heap.size = K := ⟨_, rfl⟩
    obtain ⟨w5, hw5⟩ : ∃ w5, w4.alloc (.cells #[.string a.1, .int .i64 0, .bool false] 71 (0, 0)) = w5 := ⟨_, rfl⟩
    have hb5 : Below w4.heap.size w4 w5 := hw5 ▸ (Below.refl _ _).alloc (Nat.le_refl _) _
    have hk5 : w5.heap[K]? = some (.cells #[.string a.1, .int .i64 0, .bool false] 71 (0, 0)) := by rw [← hK, ← hw5]; exact heap_alloc_new _ _
    rw [hw5, hK]
    have HW5 := Lib.hid (HW4.out.step (by omega) (Same.of_below hb5) (HW4.out.rdr.step hb5).rd HW4.out.rdr.inr)
    have HK5 := Lib.hid (⟨hk5, hK ▸ HW4.out.same.size, fun k hk => by rw [← hK]; exact (HW4.out.rows.blk k hk).2, fun k hk => by rw [← hK]; exact (HW4.out.names.blk k hk).2⟩ : _ ∧ w.heap.size ≤ K ∧ (∀ k, (Value.slice B ps.length b).ownBlock = some k → k < K) ∧ (∀ k, (Value.slice V ps.length v).ownBlock = some k → k < K))
    have k0 : w5.cell? ⟨K, 0, none⟩ = some (.string a.1) := (blk_cell hk5 0).trans rfl
    have hkl := blk_lt hk5
    clear hb5 hw5 hK hk5
    go_wp2_with (at_builtin; refine Hid.out ?_)
    refine Lib.hid ?_
    refine wpList_grow (by rfl) _ _ _ (by rfl) (.string ⟨#[]⟩) 16 Tryz.underlying37 info_str (by rfl) (by decide) (by rfl) HW5.out.names a.1 #[.string a.1] _ (by rfl) (by rfl) (by simp [Value.oneCell']) (Av.str _ _ _) (by unfold maxLen; omega) (by omega) HW5.out.same.size ?_
    intro g2 cap w6 hG6 hS6 hg6
    have HM6 := Lib.hid (HW5.out.named hg H.out.row HK5.out hG6 hS6 hg6)
    clear hG6 hS6 hg6 k0 hkl HW HW2 HW3 HW4 HW5 HK5 HNM HIK
    go_wp2_with fail
    refine (must_any T HM6.out.rdr ⟨#[58, 61]⟩ (by decide)).mono ?_
    rw [HQ.out.2.1]
    rintro e w7 ⟨rfl, hr7, hs7⟩
    have HM7 := Lib.hid (HM6.out.step hs7 hr7 (by have := (rMust_on T.fin ⟨#[58, 61]⟩ (by decide) HM6.out.rdr.inr).1; rwa [HQ.out.2.1] at this))
    clear hr7 hs7 HM6
    go_wp2_with fail
    refine (rtakes_any T HM7.out.rdr ⟨#[45]⟩).mono ?_
    rw [HQ.out.2.2.1]
    rintro e w8 ⟨rfl, hr8, hs8⟩
    have HM8 := Lib.hid (HM7.out.step hs8 hr8 (by have := (rTakes_on T.fin ⟨#[45]⟩ (by decide) HM7.out.rdr.inr).1; rwa [HQ.out.2.2.1] at this))
    clear hr8 hs8 HM7
    go_upto_region 12 with fail
    obtain ⟨m8, s8⟩ := c8
    obtain ⟨t, ht⟩ : ∃ t, tokAt l s8.at_ = t := ⟨_, rfl⟩
    have HT := Lib.hid ht
    have HB8 := Lib.hid (fun W (hb : Below w8.heap.size w8 W) => HM8.out.below hb)
    go_cut [41] (fun s41 wx => s41 = .bool (s8.bad == 0 && t.kind != 2) ∧ Below w8.heap.size w8 wx)
    case first =>
     obtain ⟨q, hq⟩ : ∃ q, (t.kind != 2) = q := ⟨_, rfl⟩
     have HTK := Lib.hid (token_any' HM8.out.rdr)
     have HOK := Lib.hid (ok_any HM8.out.rdr)
     have hfd := fun W => (run_field_tok (.int .i64 t.kind) (.string t.text) (.int .i64 t.n) (.int .i64 t.at_) W).1
     rw [ht] at HTK
     clear ht
     by_cases hb : s8.bad = 0
     ·have hbb : (s8.bad == 0) = true := beq_iff_eq.2 hb
      rw [hbb] at HOK
      cases q
      all_goals
       go_wp2_with fail
       refine HOK.out.mono ?_
       rintro e w9 ⟨rfl, rfl⟩
       go_wp2_with fail
       refine HTK.out.mono ?_
       rintro e w9 ⟨rfl, hb9⟩
       go_wp2_with fail
       go_wp2_with fail
       go_meet
       exact ⟨by rw [hbb, hq]; rfl, hb9⟩
     ·have hbb : (s8.bad == 0) = false := beq_eq_false_iff_ne.2 hb
      rw [hbb] at HOK
      go_wp2_with fail
      refine HOK.out.mono ?_
      rintro e w9 ⟨rfl, rfl⟩
      go_wp2_with fail
      go_meet
      exact ⟨by rw [hbb]; rfl, Below.refl _ _⟩
    case rest =>
     obtain ⟨rfl, hbw⟩ := hcut
     have HM9 := Lib.hid (HM8.out.below hbw)
     obtain ⟨s9, h9⟩ : ∃ d, (if s8.bad = 0 ∧ (tokAt l s8.at_).kind ≠ 2 then rFail 11 s8 else s8) = d := ⟨_, rfl⟩
     have hon9 : InR l s9 := by
      rw [← h9]
      split
      ·exact (rFail_on 11 (by decide) HM9.out.rdr.inr).1
      ·exact HM9.out.rdr.inr
     have hbd : s9.bad = 0 → (tokAt l s9.at_).kind = 2 := by
      rw [← h9]
      split
      ·exact fun h => absurd h (rFail_bad (by decide) _)
      ·rename_i hc
       exact fun h => Decidable.byContradiction fun hk => hc ⟨h, hk⟩
     obtain ⟨q, hq⟩ : ∃ q, (s8.bad == 0 && t.kind != 2) = q := ⟨_, rfl⟩
     rw [hq]
     have h9q : (if q = true then rFail 11 s8 else s8) = s9 := by
      rw [← h9, ← hq, ht]
      by_cases h1 : s8.bad = 0 ∧ t.kind ≠ 2
      ·rw [if_pos h1, if_pos (by simpa using h1)]
      ·rw [if_neg h1, if_neg (by simpa using h1)]
     have HH9 := Lib.hid (⟨h9, hon9, hbd, h9q⟩ : _ ∧ _ ∧ _ ∧ _)
     clear hbw hq ht h9 hon9 hbd h9q HB8
     go_upto_if 41 with fail
     go_cut [] (fun wx => PrmM l g A c w wx B b (some ⟨g2, 0, none⟩) cap ps K ⟨a.1, 0, false⟩ s9)
     case first =>
      cases q
      ·go_wp2_with fail
       go_meet
       have h : s8 = s9 := by simpa using HH9.out.2.2.2
       exact h ▸ HM9.out
      ·go_wp2_with fail
       refine (rfail_any HM9.out.rdr 11).mono ?_
       rintro e w10 ⟨rfl, hr10, hs10⟩
       go_wp2_with fail
       go_meet
       have h : rFail 11 s8 = s9 := by simpa using HH9.out.2.2.2
       exact HM9.out.step hs10 (h ▸ hr10) HH9.out.2.1
     case rest =>
      have HM10 := Lib.hid hcut
      have HOK := Lib.hid (ok_any hcut.rdr)
      have HTK := Lib.hid (token_any' hcut.rdr)
      obtain ⟨t9, ht9⟩ : ∃ t, tokAt l s9.at_ = t := ⟨_, rfl⟩
      have hq11 := HQ.out.2.2.2.1
      unfold prmN at hq11
      simp only [HH9.out.1] at hq11
      have HE := Lib.hid hq11
      rw [ht9] at HTK HE
      have HT9 := Lib.hid ht9
      clear hcut hq11 ht9
      go_upto_region 14 with fail
      obtain ⟨q, hq⟩ : ∃ q, (s9.bad == 0) = q := ⟨_, rfl⟩
      have HQ9 := Lib.hid hq
      rw [hq] at HOK
      clear hq
      go_wp2_with fail
      refine HOK.out.mono ?_
      rintro e w11 ⟨rfl, rfl⟩
      go_upto_if 45 with fail
      go_cut [] (fun wx => ∃ n s10, ((n, s10) : Int × RS) = (if s9.bad = 0 then (t9.n, rPass s9) else (0, s9)) ∧ PrmM l g A c w wx B b (some ⟨g2, 0, none⟩) cap ps K ⟨a.1, n, false⟩ s10)
      case first =>
       cases q
       ·have hb : s9.bad ≠ 0 := fun hc => by have := HQ9.out; rw [hc] at this; exact absurd this (by decide)
        have HB := Lib.hid hb
        clear hb
        go_wp2_with fail
        go_meet
        exact ⟨0, s9, by rw [if_neg HB.out], HM10.out⟩
       ·have HB := Lib.hid (beq_iff_eq.1 HQ9.out)
        go_wp2_with fail
        refine HTK.out.mono ?_
        rintro e w12 ⟨rfl, hb12⟩
        have HM12 := Lib.hid (HM10.out.below hb12)
        have HM13 := Lib.hid (HM12.out.put 1 (.int .i64 t9.n) ⟨a.1, t9.n, false⟩ rfl rfl)
        have hfd := fun W => (run_field_tok (.int .i64 t9.kind) (.string t9.text) (.int .i64 t9.n) (.int .i64 t9.at_) W).2.1
        have hk1 : w12.cell? ⟨K, 1, none⟩ = some (.int .i64 0) := (blk_cell HM12.out.box 1).trans rfl
        have hf1 := blk_frozen HM12.out.box 1
        have hne : K ≠ g := by have := HM12.out.far.1; omega
        obtain ⟨⟨c0, c1, c2, c3⟩, f0, f1, f2, f3⟩ := blk4 HM12.out.rdr.rd
        have hadd : IntKind.i64.wrap (s9.at_ + 1) = s9.at_ + 1 := by have h1 := HM12.out.rdr.inr.1; have h2 := HM12.out.rdr.inr.2.1; exact IntWalk.i64_in _ (by omega)
        clear hb12
        go_wp2_with fail
        go_meet
        refine ⟨t9.n, rPass s9, by rw [if_pos HB.out], HM13.out.step ((Same.refl [g] _).setCell (.inl (by simp)) _) (HM13.out.rdr.set 1 _) (rPass_on T.fin HM13.out.rdr.inr ?_).1⟩
        rw [HH9.out.2.2.1 HB.out]
        decide
      case rest =>
       obtain ⟨n10, s10, he, hM⟩ := hcut
       rw [← he] at HE
       have HM11 := Lib.hid hM
       clear hM he
       go_upto_if 57 with fail
       go_cut [] (fun wx => PrmM l g A c w wx B b (some ⟨g2, 0, none⟩) cap ps K ⟨a.1, e11.1, false⟩ s10)
       case first =>
        have hk1 := (blk_cell HM11.out.box 1).trans (rfl : _ = some (Value.int .i64 n10))
        have hf1 := blk_frozen HM11.out.box 1
        cases m8
        ·go_wp2_with fail
         go_meet
         have h : n10 = e11.1 := by rw [← HE.out]; rfl
         exact h ▸ HM11.out
        ·have h : wrap64 (-n10) = e11.1 := by rw [← HE.out]; rfl
         have HP := Lib.hid (HM11.out.put 1 (.int .i64 (wrap64 (-n10))) ⟨a.1, e11.1, false⟩ rfl (by rw [h]; rfl))
         clear h
         go_wp2_with fail
         go_meet
         exact HP.out
       case rest =>
        have HM12 := Lib.hid hcut
        have h2 : s10 = e11.2 := by rw [← HE.out]
        have HE2 := Lib.hid h2
        clear hcut h2
        go_wp2_with fail
        refine (rtakes_any T HM12.out.rdr wScaled).mono ?_
        rw [HE2.out, HQ.out.2.2.2.2.1]
        rintro e w13 ⟨rfl, hr13, hs13⟩
        have HM13 := Lib.hid (HM12.out.step hs13 hr13 (by have := (rTakes_on T.fin wScaled (by decide) HM12.out.rdr.inr).1; rwa [HE2.out, HQ.out.2.2.2.2.1] at this))
        have HM14 := Lib.hid (HM13.out.put 2 (.bool f12.1) ⟨a.1, e11.1, f12.1⟩ rfl rfl)
        have hk1 : w13.cell? ⟨K, 2, none⟩ = some (.bool false) := (blk_cell HM13.out.box 2).trans rfl
        have hf1 := blk_frozen HM13.out.box 2
        clear hr13 hs13
        go_wp2_with fail
        refine (must_any T HM14.out.rdr ⟨#[59]⟩ (by decide)).mono ?_
        rw [HQ.out.2.2.2.2.2]
        rintro e w15 ⟨rfl, hr15, hs15⟩
        have HM15 := Lib.hid (HM14.out.step hs15 hr15 (by have := (rMust_on T.fin ⟨#[59]⟩ (by decide) HM14.out.rdr.inr).1; rwa [HQ.out.2.2.2.2.2] at this))
        clear hk1 hf1 hr15 hs15
        have k0 : w15.cell? ⟨K, 0, none⟩ = some (.string a.1) := (blk_cell HM15.out.box 0).trans rfl
        have k1 : w15.cell? ⟨K, 1, none⟩ = some (.int .i64 e11.1) := (blk_cell HM15.out.box 1).trans rfl
        have k2 : w15.cell? ⟨K, 2, none⟩ = some (.bool f12.1) := (blk_cell HM15.out.box 2).trans rfl
        go_wp2_with (at_builtin; refine Hid.out ?_)
        refine Lib.hid ?_
        refine wpList_grow (by rfl) _ _ _ (by rfl) (.agg #[.string ⟨#[]⟩, .int .i64 0, .bool false]) 32 Tryz.underlying23 info_prm (by rfl) (by decide) (by rfl) HM15.out.rows (⟨a.1, e11.1, f12.1⟩ : Prm) #[.string a.1, .int .i64 e11.1, .bool f12.1] _ (by rfl) (by rfl) (by simp [Value.oneCell']) (Av.prm _ _ _) (by unfold maxLen; omega) (by omega) HM15.out.same.size ?_
        intro g3 cap3 w16 hG hS hg3
        have HM16 := Lib.hid (HM15.out.done hG hS hg3)
        clear hG hS hg3 k0 k1 k2
        go_wp2_with fail
        go_roundg gk
        case measure => omega
        case rel => exact ⟨m, some ⟨g3, 0, none⟩, cap3, some ⟨g2, 0, none⟩, cap, ps ++ [⟨a.1, e11.1, f12.1⟩], s13, by simp, by simp, HM16.out, by omega, by simp; omega, by simp; omega, HA.out⟩
end Go.Proofs.YtgcfjkfipkfijaaGreatDoor
namespace Go.Proofs.YtgcfjkfipkfijaaGreatDoor
open Go Go.RowKit Go.Lib
def arK : Kind Ar := Kind.iso (.pair .str exK) (fun a => (a.name, a.e))
theorem arK_mk {M : List Nat} {w : World} {a : Ar} {A : Option Addr} {c : Nat} (h1 : a.e.kids.length ≤ c) (h2 : exK.Row M w A a.e.kids) : arK.rep M w a [.string a.name, .int .i64 a.e.op, .int .i64 a.e.n, .string a.e.name, .slice A a.e.kids.length c] :=
 ⟨[_], _, rfl, rfl, exK_mk h1 h2⟩
theorem arK_open {M : List Nat} {w : World} {a : Ar} {cs : List Value} (h : arK.rep M w a cs) : ∃ A c, cs = [.string a.name, .int .i64 a.e.op, .int .i64 a.e.n, .string a.e.name, .slice A a.e.kids.length c] ∧ a.e.kids.length ≤ c ∧ exK.Row M w A a.e.kids := by
 obtain ⟨_, _, rfl, rfl, h⟩ := h
 obtain ⟨A, c, rfl, h1, h2⟩ := exK_open h
 exact ⟨A, c, rfl, h1, h2⟩
theorem Av.ar {P : Nat → Prop} {w : World} {a : Ar} {A : Option Addr} {c : Nat} (h : ExF P w a.e A c) : Av arK P w a [.string a.name, .int .i64 a.e.op, .int .i64 a.e.n, .string a.e.name, .slice A a.e.kids.length c] := fun M hM => arK_mk h.1 (h.2 M hM)
abbrev rowV (k : Int) (uA : Option Addr) (un uc : Nat) (kA : Option Addr) (kn kc : Nat) : Value := .iface 58 (.agg #[.int .i64 k, .slice uA un uc, .slice kA kn kc])
abbrev choiceV (e : Ex) (eA : Option Addr) (ec : Nat) (aA : Option Addr) (an ac : Nat) (bA : Option Addr) (bn bc : Nat) : Value :=
 .iface 95 (.agg #[.int .i64 e.op, .int .i64 e.n, .string e.name, .slice eA e.kids.length ec, .int .i64 0, .slice none 0 0, .slice aA an ac, .int .i64 0, .slice none 0 0, .slice bA bn bc])
abbrev stepV (nm : ByteArray) (gA : Option Addr) (gn gc : Nat) : Value := .iface 97 (.agg #[.string nm, .slice gA gn gc])
def pcRep (R : List Nat → World → Option Addr → List Pc → Prop) (M : List Nat) (w : World) (p : Pc) (cs : List Value) : Prop :=
 match p with
 | .row k us kids => ∃ uA uc kA kc, cs = [rowV k uA us.length uc kA kids.length kc] ∧ us.length ≤ uc ∧ Kind.str.Row M w uA us ∧ kids.length ≤ kc ∧ R M w kA kids
 | .choice e a b => ∃ eA ec aA ac bA bc, cs = [choiceV e eA ec aA a.length ac bA b.length bc] ∧ e.kids.length ≤ ec ∧ exK.Row M w eA e.kids ∧ a.length ≤ ac ∧ R M w aA a ∧ b.length ≤ bc ∧ R M w bA b
 | .step nm al => ∃ gA gc, cs = [stepV nm gA al.length gc] ∧ al.length ≤ gc ∧ arK.Row M w gA al
theorem pcRep_imp {R R' : List Nat → World → Option Addr → List Pc → Prop} {M M' : List Nat} {w w' : World} {p : Pc} {cs : List Value} (h : pcRep R M w p cs) (hR : ∀ A xs, R M w A xs → R' M' w' A xs) (hs : ∀ A xs, Kind.str.Row M w A xs → Kind.str.Row M' w' A xs)
  (he : ∀ A xs, exK.Row M w A xs → exK.Row M' w' A xs) (ha : ∀ A xs, arK.Row M w A xs → arK.Row M' w' A xs) : pcRep R' M' w' p cs := by
 cases p with
 | row k us kids =>
  obtain ⟨uA, uc, kA, kc, h1, h2, h3, h4, h5⟩ := h
  exact ⟨uA, uc, kA, kc, h1, h2, hs _ _ h3, h4, hR _ _ h5⟩
 | choice e a b =>
  obtain ⟨eA, ec, aA, ac, bA, bc, h1, h2, h3, h4, h5, h6, h7⟩ := h
  exact ⟨eA, ec, aA, ac, bA, bc, h1, h2, he _ _ h3, h4, hR _ _ h5, h6, hR _ _ h7⟩
 | step nm al =>
  obtain ⟨gA, gc, h1, h2, h3⟩ := h
  exact ⟨gA, gc, h1, h2, ha _ _ h3⟩
theorem pcRep_len {R : List Nat → World → Option Addr → List Pc → Prop} {M : List Nat} {w : World} {p : Pc} {cs : List Value} (h : pcRep R M w p cs) : cs.length = 1 := by
 cases p with
 | row k us kids => obtain ⟨_, _, _, _, rfl, _⟩ := h; rfl
 | choice e a b => obtain ⟨_, _, _, _, _, _, rfl, _⟩ := h; rfl
 | step nm al => obtain ⟨_, _, rfl, _⟩ := h; rfl
def pcU : Nat → Kind Pc
 | 0 => ⟨1, fun _ _ _ _ => False, fun h => h.elim, fun h _ => h.elim, fun h _ => h.elim⟩
 | d + 1 => ⟨1, pcRep (pcU d).Row, pcRep_len, fun h s => pcRep_imp h (fun _ _ h => h.keep s) (fun _ _ h => h.keep s) (fun _ _ h => h.keep s) (fun _ _ h => h.keep s),
   fun h s => pcRep_imp h (fun _ _ h => h.less s) (fun _ _ h => h.less s) (fun _ _ h => h.less s) (fun _ _ h => h.less s)⟩
theorem pcU_sz : ∀ d, (pcU d).sz = 1
 | 0 => rfl
 | _ + 1 => rfl
theorem pcU_mono : ∀ {d : Nat} {M : List Nat} {w : World} {p : Pc} {cs : List Value}, (pcU d).rep M w p cs → (pcU (d + 1)).rep M w p cs
 | 0, _, _, _, _, h => h.elim
 | _ + 1, _, _, _, _, h => pcRep_imp h (fun _ _ h => h.imp (by rw [pcU_sz, pcU_sz]) (fun _ _ _ hx => pcU_mono hx)) (fun _ _ h => h) (fun _ _ h => h) (fun _ _ h => h)
theorem pcU_le {d d' : Nat} (hd : d ≤ d') {M : List Nat} {w : World} {p : Pc} {cs : List Value} (h : (pcU d).rep M w p cs) : (pcU d').rep M w p cs := by
 induction hd with
 | refl => exact h
 | step _ ih => exact pcU_mono ih
def pcK : Kind Pc := ⟨1, fun M w p cs => ∃ d, (pcU d).rep M w p cs, fun h => by obtain ⟨d, h⟩ := h; rw [(pcU d).len h, pcU_sz], fun h s => h.imp fun d h => (pcU d).keep h s, fun h s => h.imp fun d h => (pcU d).less h s⟩
theorem pcU_row {M : List Nat} {w : World} {A : Option Addr} {ks : List Pc} (h : pcK.Row M w A ks) : ∃ d, (pcU d).Row M w A ks := by
 by_cases hn : 0 < ks.length
 ·obtain ⟨ad, e, hb, hl, hc⟩ := h.2 hn
  have key : ∀ m, m ≤ ks.length → ∃ d, ∀ i (hi : i < ks.length), i < m → ∃ cs, (pcU d).rep M w ks[i] cs ∧ ∀ j u, cs[j]? = some u → w.cell? (ad.add (i * 1 + j)) = some u := by
   intro m
   induction m with
   | zero => intro _; exact ⟨0, fun i _ h => absurd h (by omega)⟩
   | succ m ih =>
    intro hm
    obtain ⟨d, hd⟩ := ih (by omega)
    obtain ⟨cs, ⟨d', h'⟩, hcs⟩ := hc m (by omega)
    refine ⟨d + d', fun i hi him => ?_⟩
    by_cases e : i = m
    ·subst e; exact ⟨cs, pcU_le (by omega) h', hcs⟩
    ·obtain ⟨cs, h1, h2⟩ := hd i hi (by omega)
     exact ⟨cs, pcU_le (by omega) h1, h2⟩
  obtain ⟨d, hd⟩ := key ks.length (Nat.le_refl _)
  refine ⟨d, h.1, fun _ => ⟨ad, e, hb, hl, fun i hi => ?_⟩⟩
  rw [pcU_sz]
  exact hd i hi hi
 ·exact ⟨0, h.1, fun h => absurd h hn⟩
theorem pcU_row_le {d d' : Nat} (hd : d ≤ d') {M : List Nat} {w : World} {A : Option Addr} {ks : List Pc} (h : (pcU d).Row M w A ks) : (pcU d').Row M w A ks := h.imp (by rw [pcU_sz, pcU_sz]) (fun _ _ _ hx => pcU_le hd hx)
theorem pcK_iff {M : List Nat} {w : World} {p : Pc} {cs : List Value} : pcK.rep M w p cs ↔ pcRep pcK.Row M w p cs := by
 constructor
 ·rintro ⟨d, h⟩
  cases d with
  | zero => exact h.elim
  | succ d => exact pcRep_imp h (fun _ _ h => h.imp (by rw [pcU_sz]; rfl) (fun _ _ _ hx => ⟨d, hx⟩)) (fun _ _ h => h) (fun _ _ h => h) (fun _ _ h => h)
 ·intro h
  cases p with
  | row k us kids =>
   obtain ⟨uA, uc, kA, kc, h1, h2, h3, h4, h5⟩ := h
   obtain ⟨d, hd⟩ := pcU_row h5
   exact ⟨d + 1, uA, uc, kA, kc, h1, h2, h3, h4, hd⟩
  | choice e a b =>
   obtain ⟨eA, ec, aA, ac, bA, bc, h1, h2, h3, h4, h5, h6, h7⟩ := h
   obtain ⟨d, hd⟩ := pcU_row h5
   obtain ⟨d', hd'⟩ := pcU_row h7
   exact ⟨d + d' + 1, eA, ec, aA, ac, bA, bc, h1, h2, h3, h4, pcU_row_le (by omega) hd, h6, pcU_row_le (by omega) hd'⟩
  | step nm al => exact ⟨1, h⟩
theorem Av.step {P : Nat → Prop} {w : World} {nm : ByteArray} {al : List Ar} {gA : Option Addr} {gc : Nat} (h : RowF arK P w gA gc al) : Av pcK P w (.step nm al) [stepV nm gA al.length gc] := fun M hM => pcK_iff.2 ⟨gA, gc, rfl, h.1, h.2 M hM⟩
theorem Av.row {P : Nat → Prop} {w : World} {k : Int} {us : List ByteArray} {kids : List Pc} {uA kA : Option Addr} {uc kc : Nat} (h1 : RowF Kind.str P w uA uc us) (h2 : RowF pcK P w kA kc kids) : Av pcK P w (.row k us kids) [rowV k uA us.length uc kA kids.length kc] :=
 fun M hM => pcK_iff.2 ⟨uA, uc, kA, kc, rfl, h1.1, h1.2 M hM, h2.1, h2.2 M hM⟩
theorem Av.choice {P : Nat → Prop} {w : World} {e : Ex} {a b : List Pc} {eA aA bA : Option Addr} {ec ac bc : Nat} (h1 : ExF P w e eA ec) (h2 : RowF pcK P w aA ac a) (h3 : RowF pcK P w bA bc b) : Av pcK P w (.choice e a b) [choiceV e eA ec aA a.length ac bA b.length bc] :=
 fun M hM => pcK_iff.2 ⟨eA, ec, aA, ac, bA, bc, rfl, h1.1, h1.2 M hM, h2.1, h2.2 M hM, h3.1, h3.2 M hM⟩
theorem info_ar : (Tryz.prog.info? 75).map (fun i => (i.zero, i.size, i.bytes)) = some (some (.agg #[.string ⟨#[]⟩, .int .i64 0, .int .i64 0, .string ⟨#[]⟩, .slice none 0 0]), 5, 72) := by kernel_rfl
theorem info_pc : (Tryz.prog.info? 91).map (fun i => (i.zero, i.size, i.bytes)) = some (some .nilIface, 1, 16) := by kernel_rfl
theorem rTakes_bad {l : List Tok} {x : ByteArray} {s : RS} (hx : x.size ≠ 0) (h : (rTakes l x s).1 = true) : s.bad = 0 := by
 unfold rTakes at h
 split at h
 ·rename_i hc
  rw [Bool.or_eq_true] at hc
  rcases hc with hc | hc
  ·exact (rIsKey_kind hx hc).2
  ·exact (rIsSign_kind hc).2
 ·simp at h
theorem rTakes_b {l : List Tok} {x : ByteArray} {s : RS} : (rTakes l x s).2.bad = s.bad := by unfold rTakes; split <;> rfl
theorem rFail_b {e : Int} {s : RS} (he : e ≠ 0) : (rFail e s).bad ≠ 0 := by unfold rFail; split <;> assumption
theorem rMust_b {l : List Tok} {x : ByteArray} {s : RS} (h : s.bad ≠ 0) : (rMust l x s).bad ≠ 0 := by
 unfold rMust
 split
 ·rw [rTakes_b]; exact h
 ·exact rFail_b (by decide)
theorem rName_b {l : List Tok} {had : List ByteArray} {s : RS} (h : s.bad ≠ 0) : (rName l had s).2.bad ≠ 0 := by unfold rName; rw [if_pos h]; exact h
theorem rExpr_b {l : List Tok} {s : RS} (h : s.bad ≠ 0) : (rExpr l s).2.bad ≠ 0 := by unfold rExpr; rw [if_pos h]; exact h
theorem rMost_full {l : List Tok} {had : List ByteArray} {most : Int} {s : RS} (h : (had.length : Int) = most) : (rName l had (rMost l had.length most s)).2.bad ≠ 0 := by
 unfold rMost
 by_cases hn : rNamed l s = true
 ·rw [if_pos ⟨h, hn⟩]
  exact rName_b (rFail_b (by decide))
 ·rw [if_neg (fun hc => hn hc.2)]
  unfold rName
  by_cases hb : s.bad ≠ 0
  ·rw [if_pos hb]; exact hb
  ·rw [if_neg hb, if_pos (by simpa using hn)]
   exact rFail_b (by decide)
theorem argP_full {l : List Tok} {had : List ByteArray} {s : RS} (h : had.length = 4) : (argP l had s).2.bad ≠ 0 := rExpr_b (rMust_b (rMost_full (by omega)))
end Go.Proofs.YtgcfjkfipkfijaaGreatDoor
