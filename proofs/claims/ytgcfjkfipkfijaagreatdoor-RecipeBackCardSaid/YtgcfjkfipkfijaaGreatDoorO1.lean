/- Trees, tokens and cells that come in: out of the form's reading, how they lie in memory. -/
import Derived.Test.YtgcfjkfipkfijaaGreatDoorB1
import Derived.Test.YtgcfjkfipkfijaaGreatDoorE7
import Derived.Deep.Slices
import Derived.Deep.Fields
import Derived.ChangeSame
import Derived.Lib.SmallJoins
import Derived.Carry
import Derived.OpenShut
namespace Go.Proofs.YtgcfjkfipkfijaaGreatDoor
open Go Go.RowKit Go.ChangeShapes Go.WideShapes Go.Deep Go.Joins

section
variable {H : Type} {enc : TypeId × Value → H} {W : World}
/-- All that a datum holds stays within the form's reach. -/
def Light8 (t : TypeId) (d : DataW H) : Prop := (d.weights Tryz.prog t).all (fun n => decide (n ≤ reachBytes)) = true
theorem weightsAll_mem {t : TypeId} : ∀ (l : List (DataW H)), (DataW.weightsAll Tryz.prog t l).all (fun n => decide (n ≤ reachBytes)) = true → ∀ d, d ∈ l → Light8 t d
  | [], _, d, hd => by simp at hd
  | x :: l, h, d, hd => by
    rw [DataW.weightsAll, List.all_append, Bool.and_eq_true] at h
    rcases List.mem_cons.1 hd with rfl | hd
    · exact h.1
    · exact weightsAll_mem l h.2 d hd
abbrev Reads8 (enc : TypeId × Value → H) (W : World) (n : Nat) (t : TypeId) (cs : List Value) (x : DataW H × List MemPlace) : Prop := DataW.trod enc Tryz.prog W 0 (fun _ => true) true n t cs = some x
/-- A slice that comes in. -/
theorem row_open {α : Type} (d : Kind α) {E S : TypeId} {Q : α → Prop} {fuel : Nat} {cs : List Value} {x : DataW H × List MemPlace} (hS : Tryz.prog.underlying S = some (.slice E)) (hC : Tryz.prog.cellsOf E = d.sz) (hsz : 0 < d.sz)
    (hel : ∀ n, n < fuel → ∀ (cs : List Value) (x : DataW H × List MemPlace), Reads8 enc W n E cs x → Light8 E x.1 → ∃ a : α, d.rep [] W a cs ∧ Q a)
    (h : Reads8 enc W fuel S cs x) (hw : Light8 S x.1) :
    ∃ (xs : List α) (A : Option Addr) (c : Nat), cs = [.slice A xs.length c] ∧ xs.length ≤ c ∧ d.Row [] W A xs ∧ (∀ a, a ∈ xs → Q a) ∧ xs.length * Tryz.prog.bytesOf E ≤ reachBytes := by
  rcases DataW.trod_slice hS h with ⟨rfl, rfl⟩ | ⟨a, len, cap, elems, rest, n, rfl, rfl, rfl, hb, hl, hm, hlen, hel', _, _⟩
  · exact ⟨[], none, 0, rfl, Nat.le_refl _, Kind.Row.nil _ _ _ _, fun a ha => by simp at ha, by simp⟩
  · unfold Light8 at hw
    simp only [DataW.weights, hS, List.all_cons, List.all_append, Bool.and_eq_true, decide_eq_true_eq, List.length_map] at hw
    obtain ⟨hw0, hw1, _⟩ := hw
    have hmem := weightsAll_mem _ hw1
    have hex : ∀ i, i < len → ∃ y : α, (∃ cs', d.rep [] W y cs' ∧ ∀ j u, cs'[j]? = some u → W.cell? (a.add (i * d.sz + j)) = some u) ∧ Q y := by
      intro i hi
      have h1 := hel' i hi
      rw [List.getElem?_eq_getElem (by omega), Option.bind_eq_some_iff] at h1
      obtain ⟨cs', hc, ht⟩ := h1
      obtain ⟨y, hy1, hy2⟩ := hel n (Nat.lt_succ_self n) cs' _ ht (hmem _ (List.mem_map.2 ⟨_, List.getElem_mem _, rfl⟩))
      obtain ⟨_, hcl, hat⟩ := World.cells?_some hc
      refine ⟨y, ⟨cs', hy1, fun j u hu => ?_⟩, hy2⟩
      have hj : j < Tryz.prog.cellsOf E := by rw [← hcl]; exact (List.getElem?_eq_some_iff.1 hu).1
      have := hat j hj
      rw [Kind.add_add, hC] at this
      rw [this, hu]
    obtain ⟨g, hg⟩ : ∃ g : Fin len → α, ∀ i : Fin len, (∃ cs', d.rep [] W (g i) cs' ∧ ∀ j u, cs'[j]? = some u → W.cell? (a.add (i * d.sz + j)) = some u) ∧ Q (g i) :=
      ⟨fun i => Classical.choose (hex i i.2), fun i => Classical.choose_spec (hex i i.2)⟩
    refine ⟨List.ofFn g, some a, cap, by rw [List.length_ofFn], by rw [List.length_ofFn]; exact hl, ⟨?_, fun hn => ⟨a, rfl, by simp, ?_, fun i hi => ?_⟩⟩, fun y hy => ?_, ?_⟩
    · rw [List.length_ofFn]; unfold maxLen at hm; omega
    · rw [List.length_ofFn] at hn
      obtain ⟨⟨cs', h1, h2⟩, _⟩ := hg ⟨0, hn⟩
      have hlen := d.len h1
      have h3 := h2 0 (cs'[0]'(by omega)) (List.getElem?_eq_getElem _)
      have h4 := World.block_lt_of_cell? W _ h3
      rwa [Kind.block_add] at h4
    · rw [List.length_ofFn] at hi
      rw [List.getElem_ofFn]
      exact (hg ⟨i, hi⟩).1
    · obtain ⟨i, rfl⟩ := List.mem_ofFn.1 hy
      exact (hg i).2
    · rw [List.length_ofFn]
      have : len * Tryz.prog.bytesOf E ≤ (elems.length + rest.length) * Tryz.prog.bytesOf E := Nat.mul_le_mul_right _ (by omega)
      omega
theorem light_string {t : TypeId} {l : List UInt8} (h : Light8 (H := H) t (.lit (.string l))) : l.length ≤ reachBytes := by
  unfold Light8 at h
  simpa [DataW.weights] using h
theorem four {α : Type} {l : List α} (h : l.length = 4) : ∃ a b c d, l = [a, b, c, d] := by
  match l, h with
  | [a, b, c, d], _ => exact ⟨a, b, c, d, rfl⟩
theorem two2 {α : Type} {l : List α} (h : l.length = 2) : ∃ a b, l = [a, b] := by
  match l, h with
  | [a, b], _ => exact ⟨a, b, rfl⟩
theorem cells_int : Tryz.prog.cellsOf 3 = 1 := by kernel_rfl
theorem cells_str : Tryz.prog.cellsOf 9 = 1 := by kernel_rfl
theorem cells_exs : Tryz.prog.cellsOf 39 = 1 := by kernel_rfl
theorem cells_ex : Tryz.prog.cellsOf 41 = 4 := by kernel_rfl
theorem cells_tok : Tryz.prog.cellsOf 60 = 4 := by kernel_rfl
theorem reach_le {s : ByteArray} (h : s.data.toList.length ≤ reachBytes) : s.size ≤ 140737488355328 := by
  have h1 : s.data.toList.length = s.size := by simp
  unfold reachBytes at h
  omega
/-- A tree that comes in, cell by cell. -/
theorem ex_open (fuel : Nat) : ∀ (cs : List Value) (x : DataW H × List MemPlace), Reads8 enc W fuel 41 cs x → Light8 41 x.1 →
    ∃ e : Ex, exK.rep [] W e cs ∧ ExOk e := by
  induction fuel using Nat.strongRecOn with
  | _ fuel ih =>
    intro cs x h hw
    obtain ⟨xs, n, rfl, rfl, hl, hlen, hf⟩ := DataW.trod_struct Tryz.underlying41 h
    rw [cells_ex] at hl
    obtain ⟨v0, v1, v2, v3, rfl⟩ := four hl
    obtain ⟨y0, y1, y2, y3, rfl⟩ := four hlen
    have f0 : Reads8 enc W n 3 [v0] y0 := (by simpa [cells_int] using hf 0 _ rfl)
    have f1 : Reads8 enc W n 3 [v1] y1 := (by simpa [cells_int] using hf 1 _ rfl)
    have f2 : Reads8 enc W n 9 [v2] y2 := (by simpa [cells_str] using hf 2 _ rfl)
    have f3 : Reads8 enc W n 39 [v3] y3 := (by simpa [cells_exs] using hf 3 _ rfl)
    unfold Light8 at hw
    simp only [List.map_cons, List.map_nil, DataW.weights, Tryz.underlying41, DataW.weightsEach, List.all_append, List.all_nil, Bool.and_true, Bool.and_eq_true] at hw
    obtain ⟨o, h0, hx0, w0⟩ := DataW.trod_int Tryz.underlying3 f0
    obtain ⟨m, h1, hx1, w1⟩ := DataW.trod_int Tryz.underlying3 f1
    obtain ⟨s, h2, hx2, _⟩ := DataW.trod_string Tryz.underlying9 f2
    obtain ⟨ks, A, c, h3, hc, hr, hk, _⟩ := row_open exK (Q := ExOk) Tryz.underlying39 cells_ex (by decide) (fun n' hn' cs x hx hw => ih n' (by omega) cs x hx hw) f3 hw.2.2.2
    simp only [List.cons.injEq, and_true] at h0 h1 h2 h3
    subst h0 h1 h2 h3
    have hs : s.size ≤ 140737488355328 := reach_le (light_string (H := H) (t := 9) (by have := hw.2.2.1; rw [hx2] at this; exact this))
    exact ⟨.mk o m s ks, exK_mk (e := .mk o m s ks) hc hr, .mk (bounds_i64 w0) (bounds_i64 w1) hs hk⟩
set_option maxRecDepth 100000 in
/-- A tree that comes in by value. -/
theorem ex_arg {r : Reach} {b0 : Nat} {v : Value} {d : DataW H} {ps : List MemPlace} (hv : Value.okWide Tryz.prog W r b0 41 v) (h : DataW.Trod enc Tryz.prog W 0 (fun _ => true) true 41 v d ps) (hw : Light8 41 d) :
    ∃ (e : Ex) (A : Option Addr) (c : Nat), v = exV e A c ∧ e.kids.length ≤ c ∧ exK.Row [] W A e.kids ∧ ExOk e := by
  have hst := okWide_struct (P := Tryz.prog) (w := W) (r := r) (base := b0) (t := 41) (v := v) Tryz.underlying41 hv
  rw [cells_ex] at hst
  obtain ⟨cs, rfl, hsz⟩ := hst
  clear hsz
  obtain ⟨fuel, hf⟩ := h
  have hf' : Reads8 enc W fuel 41 cs.toList (d, ps) := hf
  have hw' : Light8 41 ((d, ps) : DataW H × List MemPlace).1 := hw
  obtain ⟨e, he, hk⟩ := ex_open fuel _ _ hf' hw'
  obtain ⟨A, c, hcs, hc, hr⟩ := exK_open he
  refine ⟨e, A, c, ?_, hc, hr, hk⟩
  obtain ⟨l⟩ := cs
  simp only at hcs
  rw [hcs]
/-- What is known of a token that comes in. -/
structure TokIn (t : Tok) : Prop where
  kind : Fits t.kind
  n : Fits t.n
  at_ : Fits t.at_
  text : t.text.size ≤ 140737488355328
theorem tok_open (fuel : Nat) (cs : List Value) (x : DataW H × List MemPlace) (h : Reads8 enc W fuel 60 cs x) (hw : Light8 60 x.1) : ∃ t : Tok, tokK.rep [] W t cs ∧ TokIn t := by
  obtain ⟨xs, n, rfl, rfl, hl, hlen, hf⟩ := DataW.trod_struct Tryz.underlying60 h
  rw [cells_tok] at hl
  obtain ⟨v0, v1, v2, v3, rfl⟩ := four hl
  obtain ⟨y0, y1, y2, y3, rfl⟩ := four hlen
  have f0 : Reads8 enc W n 3 [v0] y0 := (by simpa [cells_int] using hf 0 _ rfl)
  have f1 : Reads8 enc W n 9 [v1] y1 := (by simpa [cells_str] using hf 1 _ rfl)
  have f2 : Reads8 enc W n 3 [v2] y2 := (by simpa [cells_int] using hf 2 _ rfl)
  have f3 : Reads8 enc W n 3 [v3] y3 := (by simpa [cells_int] using hf 3 _ rfl)
  unfold Light8 at hw
  simp only [List.map_cons, List.map_nil, DataW.weights, Tryz.underlying60, DataW.weightsEach, List.all_append, List.all_nil, Bool.and_true, Bool.and_eq_true] at hw
  obtain ⟨o, h0, hx0, w0⟩ := DataW.trod_int Tryz.underlying3 f0
  obtain ⟨s, h1, hx1, _⟩ := DataW.trod_string Tryz.underlying9 f1
  obtain ⟨m, h2, hx2, w2⟩ := DataW.trod_int Tryz.underlying3 f2
  obtain ⟨p, h3, hx3, w3⟩ := DataW.trod_int Tryz.underlying3 f3
  simp only [List.cons.injEq, and_true] at h0 h1 h2 h3
  subst h0 h1 h2 h3
  have hs : s.size ≤ 140737488355328 := reach_le (light_string (H := H) (t := 9) (by have := hw.2.1; rw [hx1] at this; exact this))
  exact ⟨⟨o, s, m, p⟩, ⟨[_], _, rfl, rfl, [_], _, rfl, rfl, [_], _, rfl, rfl, rfl⟩, ⟨bounds_i64 w0, bounds_i64 w2, bounds_i64 w3, hs⟩⟩
structure CelIn (c : Cel) : Prop where
  name : c.name.size ≤ 140737488355328
  n : Fits c.n
end
end Go.Proofs.YtgcfjkfipkfijaaGreatDoor
