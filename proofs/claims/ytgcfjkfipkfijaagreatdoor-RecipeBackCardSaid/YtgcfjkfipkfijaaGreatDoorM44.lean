/- Recipes that come in: out of the form's reading, how they lie in memory. -/
import Derived.Test.YtgcfjkfipkfijaaGreatDoorM43
import Derived.Test.YtgcfjkfipkfijaaGreatDoorO1
namespace Go.Proofs.YtgcfjkfipkfijaaGreatDoor
open Go Go.RowKit Go.ChangeShapes Go.WideShapes Go.Deep Go.Joins

section
variable {H : Type} {enc : TypeId × Value → H} {W : World}
theorem cells_bool : Tryz.prog.cellsOf 4 = 1 := by kernel_rfl
theorem cells_ints : Tryz.prog.cellsOf 36 = 1 := by kernel_rfl
theorem cells_strs : Tryz.prog.cellsOf 37 = 1 := by kernel_rfl
theorem cells_ars : Tryz.prog.cellsOf 38 = 1 := by kernel_rfl
theorem cells_prms : Tryz.prog.cellsOf 23 = 1 := by kernel_rfl
theorem cells_nds : Tryz.prog.cellsOf 24 = 1 := by kernel_rfl
theorem cells_ar : Tryz.prog.cellsOf 75 = 5 := by kernel_rfl
theorem cells_prm : Tryz.prog.cellsOf 71 = 3 := by kernel_rfl
theorem cells_nd : Tryz.prog.cellsOf 43 = 9 := by kernel_rfl
theorem cells_rec : Tryz.prog.cellsOf 26 = 3 := by kernel_rfl
theorem three3 {α : Type} {l : List α} (h : l.length = 3) : ∃ a b c, l = [a, b, c] := by
  match l, h with
  | [a, b, c], _ => exact ⟨a, b, c, rfl⟩
theorem five5 {α : Type} {l : List α} (h : l.length = 5) : ∃ a b c d e, l = [a, b, c, d, e] := by
  match l, h with
  | [a, b, c, d, e], _ => exact ⟨a, b, c, d, e, rfl⟩
theorem six6 {α : Type} {l : List α} (h : l.length = 6) : ∃ a b c d e f, l = [a, b, c, d, e, f] := by
  match l, h with
  | [a, b, c, d, e, f], _ => exact ⟨a, b, c, d, e, f, rfl⟩
theorem nine9 {α : Type} {l : List α} (h : l.length = 9) : ∃ a b c d e f g i j, l = [a, b, c, d, e, f, g, i, j] := by
  match l, h with
  | [a, b, c, d, e, f, g, i, j], _ => exact ⟨a, b, c, d, e, f, g, i, j, rfl⟩
theorem int_el (n : Nat) (cs : List Value) (x : DataW H × List MemPlace) (h : Reads8 enc W n 3 cs x) (_hw : Light8 3 x.1) : ∃ a : Int, (Kind.int .i64).rep [] W a cs ∧ True := by
  obtain ⟨o, h0, _, _⟩ := DataW.trod_int Tryz.underlying3 h
  exact ⟨o, h0, trivial⟩
theorem str_el (n : Nat) (cs : List Value) (x : DataW H × List MemPlace) (h : Reads8 enc W n 9 cs x) (hw : Light8 9 x.1) : ∃ a : ByteArray, Kind.str.rep [] W a cs ∧ a.size ≤ 140737488355328 := by
  obtain ⟨s, h0, hx, _⟩ := DataW.trod_string Tryz.underlying9 h
  exact ⟨s, h0, reach_le (light_string (H := H) (t := 9) (by rw [hx] at hw; exact hw))⟩
theorem prm_el (fuel : Nat) (cs : List Value) (x : DataW H × List MemPlace) (h : Reads8 enc W fuel 71 cs x) (hw : Light8 71 x.1) : ∃ p : Prm, prmK.rep [] W p cs ∧ (p.name.size ≤ 140737488355328 ∧ Fits p.n) := by
  obtain ⟨xs, n, rfl, rfl, hl, hlen, hf⟩ := DataW.trod_struct Tryz.underlying71 h
  rw [cells_prm] at hl
  obtain ⟨v0, v1, v2, rfl⟩ := three3 hl
  obtain ⟨y0, y1, y2, rfl⟩ := three3 hlen
  have f0 : Reads8 enc W n 9 [v0] y0 := (by simpa [cells_str] using hf 0 _ rfl)
  have f1 : Reads8 enc W n 3 [v1] y1 := (by simpa [cells_int, cells_str] using hf 1 _ rfl)
  have f2 : Reads8 enc W n 4 [v2] y2 := (by simpa [cells_int, cells_str, cells_bool] using hf 2 _ rfl)
  unfold Light8 at hw
  simp only [List.map_cons, List.map_nil, DataW.weights, Tryz.underlying71, DataW.weightsEach, List.all_append, List.all_nil, Bool.and_true, Bool.and_eq_true] at hw
  obtain ⟨s, h0, hs⟩ := str_el n _ _ f0 hw.1
  obtain ⟨m, h1, _, w1⟩ := DataW.trod_int Tryz.underlying3 f1
  obtain ⟨b, h2, _⟩ := DataW.trod_bool Tryz.underlying4 f2
  have h0' : [v0] = [Value.string s] := h0
  simp only [List.cons.injEq, and_true] at h0' h1 h2
  subst h0' h1 h2
  exact ⟨⟨s, m, b⟩, ⟨[_], _, rfl, rfl, [_], _, rfl, rfl, rfl⟩, hs, bounds_i64 w1⟩
theorem ar_el (fuel : Nat) (cs : List Value) (x : DataW H × List MemPlace) (h : Reads8 enc W fuel 75 cs x) (hw : Light8 75 x.1) : ∃ a : Ar, arK.rep [] W a cs ∧ (a.name.size ≤ 140737488355328 ∧ ExOk a.e) := by
  obtain ⟨xs, n, rfl, rfl, hl, hlen, hf⟩ := DataW.trod_struct Tryz.underlying75 h
  rw [cells_ar] at hl
  obtain ⟨v0, v1, v2, v3, v4, rfl⟩ := five5 hl
  obtain ⟨y0, y1, rfl⟩ := two2 hlen
  have f0 : Reads8 enc W n 9 [v0] y0 := (by simpa [cells_str] using hf 0 _ rfl)
  have f1 : Reads8 enc W n 41 [v1, v2, v3, v4] y1 := (by simpa [cells_ex, cells_str] using hf 1 _ rfl)
  unfold Light8 at hw
  simp only [List.map_cons, List.map_nil, DataW.weights, Tryz.underlying75, DataW.weightsEach, List.all_append, List.all_nil, Bool.and_true, Bool.and_eq_true] at hw
  obtain ⟨s, h0, hs⟩ := str_el n _ _ f0 hw.1
  obtain ⟨e, h1, he⟩ := ex_open n _ _ f1 hw.2
  have h0' : [v0] = [Value.string s] := h0
  simp only [List.cons.injEq, and_true] at h0'
  subst h0'
  exact ⟨⟨s, e⟩, ⟨[_], _, rfl, rfl, h1⟩, hs, he⟩
theorem nd_el (fuel : Nat) (cs : List Value) (x : DataW H × List MemPlace) (h : Reads8 enc W fuel 43 cs x) (hw : Light8 43 x.1) : ∃ a : Nd, ndK.rep [] W a cs ∧ NdOk a := by
  obtain ⟨xs, n, rfl, rfl, hl, hlen, hf⟩ := DataW.trod_struct Tryz.underlying43 h
  rw [cells_nd] at hl
  obtain ⟨v0, v1, v2, v3, v4, v5, v6, v7, v8, rfl⟩ := nine9 hl
  obtain ⟨y0, y1, y2, y3, y4, y5, rfl⟩ := six6 hlen
  have f0 : Reads8 enc W n 3 [v0] y0 := (by simpa [cells_int] using hf 0 _ rfl)
  have f1 : Reads8 enc W n 36 [v1] y1 := (by simpa [cells_int, cells_ints] using hf 1 _ rfl)
  have f2 : Reads8 enc W n 37 [v2] y2 := (by simpa [cells_int, cells_ints, cells_strs] using hf 2 _ rfl)
  have f3 : Reads8 enc W n 9 [v3] y3 := (by simpa [cells_int, cells_ints, cells_strs, cells_str] using hf 3 _ rfl)
  have f4 : Reads8 enc W n 38 [v4] y4 := (by simpa [cells_int, cells_ints, cells_strs, cells_str, cells_ars] using hf 4 _ rfl)
  have f5 : Reads8 enc W n 41 [v5, v6, v7, v8] y5 := (by simpa [cells_int, cells_ints, cells_strs, cells_str, cells_ars, cells_ex] using hf 5 _ rfl)
  unfold Light8 at hw
  simp only [List.map_cons, List.map_nil, DataW.weights, Tryz.underlying43, DataW.weightsEach, List.all_append, List.all_nil, Bool.and_true, Bool.and_eq_true] at hw
  obtain ⟨w0, w1, w2, w3, w4, w5⟩ := hw
  obtain ⟨o, h0, _, _⟩ := DataW.trod_int Tryz.underlying3 f0
  obtain ⟨ks, kA, kc, h1, hk1, hk2, _, _⟩ := row_open (Kind.int .i64) (Q := fun _ => True) Tryz.underlying36 cells_int (by decide) (fun n' _ cs x hx hw => int_el n' cs x hx hw) f1 w1
  obtain ⟨us, uA, uc, h2, hu1, hu2, hu3, _⟩ := row_open Kind.str (Q := fun s => s.size ≤ 140737488355328) Tryz.underlying37 cells_str (by decide) (fun n' _ cs x hx hw => str_el n' cs x hx hw) f2 w2
  obtain ⟨s, h3, hs⟩ := str_el n _ _ f3 w3
  obtain ⟨al, gA, gc, h4, hg1, hg2, hg3, _⟩ := row_open arK (Q := fun a => a.name.size ≤ 140737488355328 ∧ ExOk a.e) Tryz.underlying38 cells_ar (by decide) (fun n' _ cs x hx hw => ar_el n' cs x hx hw) f4 w4
  obtain ⟨e, h5, he⟩ := ex_open n _ _ f5 w5
  obtain ⟨eA, ec, hecs, hec, her⟩ := exK_open h5
  have h3' : [v3] = [Value.string s] := h3
  simp only [List.cons.injEq, and_true] at h0 h1 h2 h3' h4 hecs
  obtain ⟨rfl, rfl, rfl, rfl⟩ := hecs
  subst h0 h1 h2 h3' h4
  exact ⟨⟨o, ks, us, s, al, e⟩, ⟨⟨⟨o, ks, us, s, al, e⟩, kA, kc, uA, uc, gA, gc, eA, ec⟩, rfl, rfl, ⟨hk1, hk2⟩, ⟨hu1, hu2⟩, ⟨hg1, hg2⟩, hec, her⟩, ⟨hs, hu3, hg3, he⟩⟩
theorem rowF_of {α : Type} {d : Kind α} {A : Option Addr} {c : Nat} {xs : List α} (h1 : xs.length ≤ c) (h2 : d.Row [] W A xs) : RowF d (fun _ => False) W A c xs := ⟨h1, fun _ hM => h2.less (fun k hk => (hM k hk).elim)⟩
set_option maxRecDepth 100000 in
/-- A recipe that comes in by value. -/
theorem rec_arg {r : Reach} {b0 : Nat} {v : Value} {d : DataW H} {ps : List MemPlace} (hv : Value.okWide Tryz.prog W r b0 26 v) (h : DataW.Trod enc Tryz.prog W 0 (fun _ => true) true 26 v d ps) (hw : Light8 26 d) :
    ∃ (x : Rec) (pA : Option Addr) (pc : Nat) (nA : Option Addr) (nc : Nat), v = recV x pA pc nA nc ∧ RecF (fun _ => False) W x pA pc nA nc ∧ RecOk x := by
  have hst := okWide_struct (P := Tryz.prog) (w := W) (r := r) (base := b0) (t := 26) (v := v) Tryz.underlying26 hv
  rw [cells_rec] at hst
  obtain ⟨⟨cs⟩, rfl, hsz⟩ := hst
  clear hsz
  obtain ⟨fuel, hf0⟩ := h
  have hf' : Reads8 enc W fuel 26 cs (d, ps) := hf0
  obtain ⟨xs, n, hx, hd, hl, hlen, hf⟩ := DataW.trod_struct Tryz.underlying26 hf'
  simp only [Prod.mk.injEq] at hd
  rw [cells_rec] at hl
  obtain ⟨v0, v1, v2, rfl⟩ := three3 hl
  obtain ⟨y0, y1, y2, rfl⟩ := three3 hlen
  obtain ⟨rfl, _⟩ := hd
  have f0 : Reads8 enc W n 9 [v0] y0 := (by simpa [cells_str] using hf 0 _ rfl)
  have f1 : Reads8 enc W n 23 [v1] y1 := (by simpa [cells_str, cells_prms] using hf 1 _ rfl)
  have f2 : Reads8 enc W n 24 [v2] y2 := (by simpa [cells_str, cells_prms, cells_nds] using hf 2 _ rfl)
  unfold Light8 at hw
  simp only [List.map_cons, List.map_nil, DataW.weights, Tryz.underlying26, DataW.weightsEach, List.all_append, List.all_nil, Bool.and_true, Bool.and_eq_true] at hw
  obtain ⟨s, h0, hs⟩ := str_el n _ _ f0 hw.1
  obtain ⟨pl, pA, pc, h1, hp1, hp2, hp3, _⟩ := row_open prmK (Q := fun p => p.name.size ≤ 140737488355328 ∧ Fits p.n) Tryz.underlying23 cells_prm (by decide) (fun n' _ cs x hx hw => prm_el n' cs x hx hw) f1 hw.2.1
  obtain ⟨nl, nA, nc, h2, hn1, hn2, hn3, _⟩ := row_open ndK (Q := NdOk) Tryz.underlying24 cells_nd (by decide) (fun n' _ cs x hx hw => nd_el n' cs x hx hw) f2 hw.2.2
  have h0' : [v0] = [Value.string s] := h0
  simp only [List.cons.injEq, and_true] at h0' h1 h2
  subst h0' h1 h2
  exact ⟨⟨s, pl, nl⟩, pA, pc, nA, nc, rfl, ⟨rowF_of hp1 hp2, rowF_of hn1 hn2⟩, ⟨hs, hp3, hn3⟩⟩
end
end Go.Proofs.YtgcfjkfipkfijaaGreatDoor
