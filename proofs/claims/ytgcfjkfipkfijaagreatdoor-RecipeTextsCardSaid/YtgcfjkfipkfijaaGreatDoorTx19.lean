/- Part 19 of the proof of rtexts_card; no conditions. -/
import Derived.Test.YtgcfjkfipkfijaaGreatDoorTx18
import Derived.Test.YtgcfjkfipkfijaaGreatDoorTx05
import Derived.Deep.DeepCutAuto
import Derived.Deep.CutBlock
namespace Go.Proofs.YtgcfjkfipkfijaaGreatDoor
open Go Go.RowKit Go.Lib
set_option maxHeartbeats 8000000 in
set_option maxRecDepth 100000 in
theorem xun_fail (l : List Tok) (A : Option Addr) (c : Nat) (first at_ : Int) (t : Tok) (w : World) (hr : tokK.Row [] w A l) (hlc : l.length ≤ c) (ht : tokAt l at_ = t) (hf0 : 0 ≤ first) (hf1 : first ≤ 1152921504606846976) (h1 : first ≤ at_) (h3 : at_ ≤ first + 64) (k45 : (t.kind == 4 && seq t.text ⟨#[45]⟩) = false) (k33 : (t.kind == 4 && seq t.text ⟨#[33]⟩) = false) (k40 : (t.kind == 4 && seq t.text ⟨#[40]⟩) = false) (hk2 : t.kind ≠ 2) (hk1 : t.kind ≠ 1) :
  Calls Tryz.prog 132 #[.slice A l.length c, .int .i64 first, .int .i64 at_] w (TakePost w.heap.size (zEx, 11, at_) w) := by
 have hu : True := And.elim (fun _ _ => trivial) (And.intro (And.intro hf0 hf1) (And.intro h1 h3))
 clear hu
 have n2 : (t.kind == 2) = false := beq_eq_false_iff_ne.2 (by omega)
 have m2 : (t.kind != 2) = true := bne_iff_ne.2 (by omega)
 have n1 : (t.kind == 1) = false := beq_eq_false_iff_ne.2 (by omega)
 have m1 : (t.kind != 1) = true := bne_iff_ne.2 (by omega)
 clear hk2 hk1
 have HR := Lib.hid hr
 have HTK := Lib.hid ht
 have K45 : Hid ((t.kind == 4 && seq t.text ⟨#[45]⟩) = false) := Lib.hid k45
 have K33 : Hid ((t.kind == 4 && seq t.text ⟨#[33]⟩) = false) := Lib.hid k33
 have K40 : Hid ((t.kind == 4 && seq t.text ⟨#[40]⟩) = false) := Lib.hid k40
 clear hr ht k45 k33 k40
 go_enter Tryz.func132, Tryz.ntmps132
 go_wp2_with fail
 obtain ⟨w0, hw0⟩ : ∃ w', w.alloc (.cells #[.int .i64 0, .int .i64 0, .string ⟨#[]⟩, .slice none 0 0] 41 (0, 0)) = w' := ⟨_, rfl⟩
 have hb0 : Below w.heap.size w w0 := hw0 ▸ (Below.refl _ _).alloc (Nat.le_refl _) _
 have hz0 : w0.heap[w.heap.size]? = some (.cells #[.int .i64 0, .int .i64 0, .string ⟨#[]⟩, .slice none 0 0] 41 (0, 0)) := hw0 ▸ heap_alloc_new _ _
 obtain ⟨P, hP⟩ : ∃ P, w.heap.size = P := ⟨_, rfl⟩
 rw [hw0, hP]
 rw [hP] at hz0
 have HPW := Lib.hid hP
 have HB0 := Lib.hid hb0
 have HP0 := Lib.hid hz0
 clear hb0 hz0 hw0 hP
 refine (xtoken_any l A c at_ w0 (HR.out.keep (Same.of_below HB0.out)) hlc).mono ?_
 rw [HTK.out]
 rintro r w1 ⟨rfl, hb1⟩
 have HB1 := Lib.hid (HB0.out.trans (hb1.mono HB0.out.size))
 have HP1 := Lib.hid ((hb1.block P (blk_lt HP0.out)).trans HP0.out)
 clear hb1
 go_wp2_with fail
 obtain ⟨w2, hw2⟩ : ∃ w', w1.alloc (.cells #[.int .i64 t.kind, .string t.text, .int .i64 t.n, .int .i64 t.at_] 60 (0, 0)) = w' := ⟨_, rfl⟩
 have hb2 : Below w1.heap.size w1 w2 := hw2 ▸ (Below.refl _ _).alloc (Nat.le_refl _) _
 have hz2 : w2.heap[w1.heap.size]? = some (.cells #[.int .i64 t.kind, .string t.text, .int .i64 t.n, .int .i64 t.at_] 60 (0, 0)) := hw2 ▸ heap_alloc_new _ _
 obtain ⟨T, hT⟩ : ∃ T, w1.heap.size = T := ⟨_, rfl⟩
 rw [hw2, hT]
 rw [hT] at hz2
 have HPT : Hid (P < T) := Lib.hid (by rw [← hT]; exact blk_lt HP1.out)
 have HB2 := Lib.hid (HB1.out.trans (hb2.mono HB1.out.size))
 have HP2 := Lib.hid ((hb2.block P (blk_lt HP1.out)).trans HP1.out)
 have HT2 := Lib.hid hz2
 clear hb2 hz2 hw2 hT
 refine (xis_any t ⟨#[45]⟩ w2).mono ?_
 rw [K45.out]
 rintro r w3 ⟨rfl, hb3⟩
 have HB3 := Lib.hid (HB2.out.trans (hb3.mono HB2.out.size))
 have HP3 := Lib.hid ((hb3.block P (blk_lt HP2.out)).trans HP2.out)
 have HT3 := Lib.hid ((hb3.block T (blk_lt HT2.out)).trans HT2.out)
 clear hb3
 (try clear x0 x1 x2 x3)
 obtain ⟨⟨x0, x1, x2, x3⟩, _⟩ := blk4' HT3.out
 go_wp2_with fail
 refine (xis_any t ⟨#[33]⟩ w3).mono ?_
 rw [K33.out]
 rintro r w4 ⟨rfl, hb4⟩
 have HB4 := Lib.hid (HB3.out.trans (hb4.mono HB3.out.size))
 have HP4 := Lib.hid ((hb4.block P (blk_lt HP3.out)).trans HP3.out)
 have HT4 := Lib.hid ((hb4.block T (blk_lt HT3.out)).trans HT3.out)
 clear hb4
 (try clear x0 x1 x2 x3)
 obtain ⟨⟨x0, x1, x2, x3⟩, _⟩ := blk4' HT4.out
 go_wp2_with fail
 refine (xis_any t ⟨#[40]⟩ w4).mono ?_
 rw [K40.out]
 rintro r w5 ⟨rfl, hb5⟩
 have HB5 := Lib.hid (HB4.out.trans (hb5.mono HB4.out.size))
 have HP5 := Lib.hid ((hb5.block P (blk_lt HP4.out)).trans HP4.out)
 have HT5 := Lib.hid ((hb5.block T (blk_lt HT4.out)).trans HT4.out)
 clear hb5
 (try clear x0 x1 x2 x3)
 obtain ⟨⟨x0, x1, x2, x3⟩, _⟩ := blk4' HT5.out
 have hpt := HPT.out
 obtain ⟨⟨z0, z1, z2, z3⟩, f0, f1, f2, f3⟩ := blk4 HP5.out
 go_wp2
 refine bodyPost_ret (v := .tuple #[.agg #[.int .i64 0, .int .i64 0, .string ⟨#[]⟩, .slice none 0 0], .int .i64 11, .int .i64 at_]) (by simp [results, Tryz.results132, go_sem, *]) rfl ?_
 refine ⟨none, 0, rfl, ExF.leaf rfl, ?_⟩
 first
 | exact HB5.out
 | exact below_set4' HB5.out (by rw [HPW.out]; exact Nat.le_refl _) _ _ _ _
set_option maxHeartbeats 8000000 in
set_option maxRecDepth 100000 in
theorem xun_long_op2 (l : List Tok) (A : Option Addr) (c : Nat) (first at_ : Int) (t : Tok) (w : World) (hr : tokK.Row [] w A l) (hlc : l.length ≤ c) (ht : tokAt l at_ = t) (hf0 : 0 ≤ first) (hf1 : first ≤ 1152921504606846976) (h1 : first ≤ at_) (h3 : at_ ≤ first + 64) (k45 : (t.kind == 4 && seq t.text ⟨#[45]⟩) = true) (k33 : (t.kind == 4 && seq t.text ⟨#[33]⟩) = false) (k40 : (t.kind == 4 && seq t.text ⟨#[40]⟩) = false) (hk : t.kind = 4) (h64 : 64 ≤ at_ - first) :
  Calls Tryz.prog 132 #[.slice A l.length c, .int .i64 first, .int .i64 at_] w (TakePost w.heap.size (zEx, 2, at_) w) := by
 have hu : True := And.elim (fun _ _ => trivial) (And.intro (And.intro hf0 hf1) (And.intro h1 h3))
 clear hu
 have n2 : (t.kind == 2) = false := beq_eq_false_iff_ne.2 (by omega)
 have m2 : (t.kind != 2) = true := bne_iff_ne.2 (by omega)
 have n1 : (t.kind == 1) = false := beq_eq_false_iff_ne.2 (by omega)
 have m1 : (t.kind != 1) = true := bne_iff_ne.2 (by omega)
 have g1 : (64 : Int) ≤ at_ - first := h64
 clear hk
 have HR := Lib.hid hr
 have HTK := Lib.hid ht
 have K45 : Hid ((t.kind == 4 && seq t.text ⟨#[45]⟩) = true) := Lib.hid k45
 have K33 : Hid ((t.kind == 4 && seq t.text ⟨#[33]⟩) = false) := Lib.hid k33
 have K40 : Hid ((t.kind == 4 && seq t.text ⟨#[40]⟩) = false) := Lib.hid k40
 clear hr ht k45 k33 k40
 go_enter Tryz.func132, Tryz.ntmps132
 go_wp2_with fail
 obtain ⟨w0, hw0⟩ : ∃ w', w.alloc (.cells #[.int .i64 0, .int .i64 0, .string ⟨#[]⟩, .slice none 0 0] 41 (0, 0)) = w' := ⟨_, rfl⟩
 have hb0 : Below w.heap.size w w0 := hw0 ▸ (Below.refl _ _).alloc (Nat.le_refl _) _
 have hz0 : w0.heap[w.heap.size]? = some (.cells #[.int .i64 0, .int .i64 0, .string ⟨#[]⟩, .slice none 0 0] 41 (0, 0)) := hw0 ▸ heap_alloc_new _ _
 obtain ⟨P, hP⟩ : ∃ P, w.heap.size = P := ⟨_, rfl⟩
 rw [hw0, hP]
 rw [hP] at hz0
 have HPW := Lib.hid hP
 have HB0 := Lib.hid hb0
 have HP0 := Lib.hid hz0
 clear hb0 hz0 hw0 hP
 refine (xtoken_any l A c at_ w0 (HR.out.keep (Same.of_below HB0.out)) hlc).mono ?_
 rw [HTK.out]
 rintro r w1 ⟨rfl, hb1⟩
 have HB1 := Lib.hid (HB0.out.trans (hb1.mono HB0.out.size))
 have HP1 := Lib.hid ((hb1.block P (blk_lt HP0.out)).trans HP0.out)
 clear hb1
 go_wp2_with fail
 obtain ⟨w2, hw2⟩ : ∃ w', w1.alloc (.cells #[.int .i64 t.kind, .string t.text, .int .i64 t.n, .int .i64 t.at_] 60 (0, 0)) = w' := ⟨_, rfl⟩
 have hb2 : Below w1.heap.size w1 w2 := hw2 ▸ (Below.refl _ _).alloc (Nat.le_refl _) _
 have hz2 : w2.heap[w1.heap.size]? = some (.cells #[.int .i64 t.kind, .string t.text, .int .i64 t.n, .int .i64 t.at_] 60 (0, 0)) := hw2 ▸ heap_alloc_new _ _
 obtain ⟨T, hT⟩ : ∃ T, w1.heap.size = T := ⟨_, rfl⟩
 rw [hw2, hT]
 rw [hT] at hz2
 have HPT : Hid (P < T) := Lib.hid (by rw [← hT]; exact blk_lt HP1.out)
 have HB2 := Lib.hid (HB1.out.trans (hb2.mono HB1.out.size))
 have HP2 := Lib.hid ((hb2.block P (blk_lt HP1.out)).trans HP1.out)
 have HT2 := Lib.hid hz2
 clear hb2 hz2 hw2 hT
 refine (xis_any t ⟨#[45]⟩ w2).mono ?_
 rw [K45.out]
 rintro r w3 ⟨rfl, hb3⟩
 have HB3 := Lib.hid (HB2.out.trans (hb3.mono HB2.out.size))
 have HP3 := Lib.hid ((hb3.block P (blk_lt HP2.out)).trans HP2.out)
 have HT3 := Lib.hid ((hb3.block T (blk_lt HT2.out)).trans HT2.out)
 clear hb3
 (try clear x0 x1 x2 x3)
 obtain ⟨⟨x0, x1, x2, x3⟩, _⟩ := blk4' HT3.out
 go_wp2_with fail
 refine (xis_any t ⟨#[33]⟩ w3).mono ?_
 rw [K33.out]
 rintro r w4 ⟨rfl, hb4⟩
 have HB4 := Lib.hid (HB3.out.trans (hb4.mono HB3.out.size))
 have HP4 := Lib.hid ((hb4.block P (blk_lt HP3.out)).trans HP3.out)
 have HT4 := Lib.hid ((hb4.block T (blk_lt HT3.out)).trans HT3.out)
 clear hb4
 (try clear x0 x1 x2 x3)
 obtain ⟨⟨x0, x1, x2, x3⟩, _⟩ := blk4' HT4.out
 go_wp2_with fail
 refine (xis_any t ⟨#[40]⟩ w4).mono ?_
 rw [K40.out]
 rintro r w5 ⟨rfl, hb5⟩
 have HB5 := Lib.hid (HB4.out.trans (hb5.mono HB4.out.size))
 have HP5 := Lib.hid ((hb5.block P (blk_lt HP4.out)).trans HP4.out)
 have HT5 := Lib.hid ((hb5.block T (blk_lt HT4.out)).trans HT4.out)
 clear hb5
 (try clear x0 x1 x2 x3)
 obtain ⟨⟨x0, x1, x2, x3⟩, _⟩ := blk4' HT5.out
 have hpt := HPT.out
 obtain ⟨⟨z0, z1, z2, z3⟩, f0, f1, f2, f3⟩ := blk4 HP5.out
 go_wp2
 refine bodyPost_ret (v := .tuple #[.agg #[.int .i64 0, .int .i64 0, .string ⟨#[]⟩, .slice none 0 0], .int .i64 2, .int .i64 at_]) (by simp [results, Tryz.results132, go_sem, *]) rfl ?_
 refine ⟨none, 0, rfl, ExF.leaf rfl, ?_⟩
 first
 | exact HB5.out
 | exact below_set4' HB5.out (by rw [HPW.out]; exact Nat.le_refl _) _ _ _ _
set_option maxHeartbeats 8000000 in
set_option maxRecDepth 100000 in
theorem xun_long_op3 (l : List Tok) (A : Option Addr) (c : Nat) (first at_ : Int) (t : Tok) (w : World) (hr : tokK.Row [] w A l) (hlc : l.length ≤ c) (ht : tokAt l at_ = t) (hf0 : 0 ≤ first) (hf1 : first ≤ 1152921504606846976) (h1 : first ≤ at_) (h3 : at_ ≤ first + 64) (k45 : (t.kind == 4 && seq t.text ⟨#[45]⟩) = false) (k33 : (t.kind == 4 && seq t.text ⟨#[33]⟩) = true) (k40 : (t.kind == 4 && seq t.text ⟨#[40]⟩) = false) (hk : t.kind = 4) (h64 : 64 ≤ at_ - first) :
  Calls Tryz.prog 132 #[.slice A l.length c, .int .i64 first, .int .i64 at_] w (TakePost w.heap.size (zEx, 2, at_) w) := by
 have hu : True := And.elim (fun _ _ => trivial) (And.intro (And.intro hf0 hf1) (And.intro h1 h3))
 clear hu
 have n2 : (t.kind == 2) = false := beq_eq_false_iff_ne.2 (by omega)
 have m2 : (t.kind != 2) = true := bne_iff_ne.2 (by omega)
 have n1 : (t.kind == 1) = false := beq_eq_false_iff_ne.2 (by omega)
 have m1 : (t.kind != 1) = true := bne_iff_ne.2 (by omega)
 have g1 : (64 : Int) ≤ at_ - first := h64
 clear hk
 have HR := Lib.hid hr
 have HTK := Lib.hid ht
 have K45 : Hid ((t.kind == 4 && seq t.text ⟨#[45]⟩) = false) := Lib.hid k45
 have K33 : Hid ((t.kind == 4 && seq t.text ⟨#[33]⟩) = true) := Lib.hid k33
 have K40 : Hid ((t.kind == 4 && seq t.text ⟨#[40]⟩) = false) := Lib.hid k40
 clear hr ht k45 k33 k40
 go_enter Tryz.func132, Tryz.ntmps132
 go_wp2_with fail
 obtain ⟨w0, hw0⟩ : ∃ w', w.alloc (.cells #[.int .i64 0, .int .i64 0, .string ⟨#[]⟩, .slice none 0 0] 41 (0, 0)) = w' := ⟨_, rfl⟩
 have hb0 : Below w.heap.size w w0 := hw0 ▸ (Below.refl _ _).alloc (Nat.le_refl _) _
 have hz0 : w0.heap[w.heap.size]? = some (.cells #[.int .i64 0, .int .i64 0, .string ⟨#[]⟩, .slice none 0 0] 41 (0, 0)) := hw0 ▸ heap_alloc_new _ _
 obtain ⟨P, hP⟩ : ∃ P, w.heap.size = P := ⟨_, rfl⟩
 rw [hw0, hP]
 rw [hP] at hz0
 have HPW := Lib.hid hP
 have HB0 := Lib.hid hb0
 have HP0 := Lib.hid hz0
 clear hb0 hz0 hw0 hP
 refine (xtoken_any l A c at_ w0 (HR.out.keep (Same.of_below HB0.out)) hlc).mono ?_
 rw [HTK.out]
 rintro r w1 ⟨rfl, hb1⟩
 have HB1 := Lib.hid (HB0.out.trans (hb1.mono HB0.out.size))
 have HP1 := Lib.hid ((hb1.block P (blk_lt HP0.out)).trans HP0.out)
 clear hb1
 go_wp2_with fail
 obtain ⟨w2, hw2⟩ : ∃ w', w1.alloc (.cells #[.int .i64 t.kind, .string t.text, .int .i64 t.n, .int .i64 t.at_] 60 (0, 0)) = w' := ⟨_, rfl⟩
 have hb2 : Below w1.heap.size w1 w2 := hw2 ▸ (Below.refl _ _).alloc (Nat.le_refl _) _
 have hz2 : w2.heap[w1.heap.size]? = some (.cells #[.int .i64 t.kind, .string t.text, .int .i64 t.n, .int .i64 t.at_] 60 (0, 0)) := hw2 ▸ heap_alloc_new _ _
 obtain ⟨T, hT⟩ : ∃ T, w1.heap.size = T := ⟨_, rfl⟩
 rw [hw2, hT]
 rw [hT] at hz2
 have HPT : Hid (P < T) := Lib.hid (by rw [← hT]; exact blk_lt HP1.out)
 have HB2 := Lib.hid (HB1.out.trans (hb2.mono HB1.out.size))
 have HP2 := Lib.hid ((hb2.block P (blk_lt HP1.out)).trans HP1.out)
 have HT2 := Lib.hid hz2
 clear hb2 hz2 hw2 hT
 refine (xis_any t ⟨#[45]⟩ w2).mono ?_
 rw [K45.out]
 rintro r w3 ⟨rfl, hb3⟩
 have HB3 := Lib.hid (HB2.out.trans (hb3.mono HB2.out.size))
 have HP3 := Lib.hid ((hb3.block P (blk_lt HP2.out)).trans HP2.out)
 have HT3 := Lib.hid ((hb3.block T (blk_lt HT2.out)).trans HT2.out)
 clear hb3
 (try clear x0 x1 x2 x3)
 obtain ⟨⟨x0, x1, x2, x3⟩, _⟩ := blk4' HT3.out
 go_wp2_with fail
 refine (xis_any t ⟨#[33]⟩ w3).mono ?_
 rw [K33.out]
 rintro r w4 ⟨rfl, hb4⟩
 have HB4 := Lib.hid (HB3.out.trans (hb4.mono HB3.out.size))
 have HP4 := Lib.hid ((hb4.block P (blk_lt HP3.out)).trans HP3.out)
 have HT4 := Lib.hid ((hb4.block T (blk_lt HT3.out)).trans HT3.out)
 clear hb4
 (try clear x0 x1 x2 x3)
 obtain ⟨⟨x0, x1, x2, x3⟩, _⟩ := blk4' HT4.out
 go_wp2_with fail
 refine (xis_any t ⟨#[40]⟩ w4).mono ?_
 rw [K40.out]
 rintro r w5 ⟨rfl, hb5⟩
 have HB5 := Lib.hid (HB4.out.trans (hb5.mono HB4.out.size))
 have HP5 := Lib.hid ((hb5.block P (blk_lt HP4.out)).trans HP4.out)
 have HT5 := Lib.hid ((hb5.block T (blk_lt HT4.out)).trans HT4.out)
 clear hb5
 (try clear x0 x1 x2 x3)
 obtain ⟨⟨x0, x1, x2, x3⟩, _⟩ := blk4' HT5.out
 have hpt := HPT.out
 obtain ⟨⟨z0, z1, z2, z3⟩, f0, f1, f2, f3⟩ := blk4 HP5.out
 go_wp2
 refine bodyPost_ret (v := .tuple #[.agg #[.int .i64 0, .int .i64 0, .string ⟨#[]⟩, .slice none 0 0], .int .i64 2, .int .i64 at_]) (by simp [results, Tryz.results132, go_sem, *]) rfl ?_
 refine ⟨none, 0, rfl, ExF.leaf rfl, ?_⟩
 first
 | exact HB5.out
 | exact below_set4' HB5.out (by rw [HPW.out]; exact Nat.le_refl _) _ _ _ _
set_option maxHeartbeats 8000000 in
set_option maxRecDepth 100000 in
theorem xun_long_open (l : List Tok) (A : Option Addr) (c : Nat) (first at_ : Int) (t : Tok) (w : World) (hr : tokK.Row [] w A l) (hlc : l.length ≤ c) (ht : tokAt l at_ = t) (hf0 : 0 ≤ first) (hf1 : first ≤ 1152921504606846976) (h1 : first ≤ at_) (h3 : at_ ≤ first + 64) (k45 : (t.kind == 4 && seq t.text ⟨#[45]⟩) = false) (k33 : (t.kind == 4 && seq t.text ⟨#[33]⟩) = false) (k40 : (t.kind == 4 && seq t.text ⟨#[40]⟩) = true) (hk : t.kind = 4) (h64 : 64 ≤ at_ - first) :
  Calls Tryz.prog 132 #[.slice A l.length c, .int .i64 first, .int .i64 at_] w (TakePost w.heap.size (zEx, 2, at_) w) := by
 have hu : True := And.elim (fun _ _ => trivial) (And.intro (And.intro hf0 hf1) (And.intro h1 h3))
 clear hu
 have n2 : (t.kind == 2) = false := beq_eq_false_iff_ne.2 (by omega)
 have m2 : (t.kind != 2) = true := bne_iff_ne.2 (by omega)
 have n1 : (t.kind == 1) = false := beq_eq_false_iff_ne.2 (by omega)
 have m1 : (t.kind != 1) = true := bne_iff_ne.2 (by omega)
 have g1 : (64 : Int) ≤ at_ - first := h64
 clear hk
 have HR := Lib.hid hr
 have HTK := Lib.hid ht
 have K45 : Hid ((t.kind == 4 && seq t.text ⟨#[45]⟩) = false) := Lib.hid k45
 have K33 : Hid ((t.kind == 4 && seq t.text ⟨#[33]⟩) = false) := Lib.hid k33
 have K40 : Hid ((t.kind == 4 && seq t.text ⟨#[40]⟩) = true) := Lib.hid k40
 clear hr ht k45 k33 k40
 go_enter Tryz.func132, Tryz.ntmps132
 go_wp2_with fail
 obtain ⟨w0, hw0⟩ : ∃ w', w.alloc (.cells #[.int .i64 0, .int .i64 0, .string ⟨#[]⟩, .slice none 0 0] 41 (0, 0)) = w' := ⟨_, rfl⟩
 have hb0 : Below w.heap.size w w0 := hw0 ▸ (Below.refl _ _).alloc (Nat.le_refl _) _
 have hz0 : w0.heap[w.heap.size]? = some (.cells #[.int .i64 0, .int .i64 0, .string ⟨#[]⟩, .slice none 0 0] 41 (0, 0)) := hw0 ▸ heap_alloc_new _ _
 obtain ⟨P, hP⟩ : ∃ P, w.heap.size = P := ⟨_, rfl⟩
 rw [hw0, hP]
 rw [hP] at hz0
 have HPW := Lib.hid hP
 have HB0 := Lib.hid hb0
 have HP0 := Lib.hid hz0
 clear hb0 hz0 hw0 hP
 refine (xtoken_any l A c at_ w0 (HR.out.keep (Same.of_below HB0.out)) hlc).mono ?_
 rw [HTK.out]
 rintro r w1 ⟨rfl, hb1⟩
 have HB1 := Lib.hid (HB0.out.trans (hb1.mono HB0.out.size))
 have HP1 := Lib.hid ((hb1.block P (blk_lt HP0.out)).trans HP0.out)
 clear hb1
 go_wp2_with fail
 obtain ⟨w2, hw2⟩ : ∃ w', w1.alloc (.cells #[.int .i64 t.kind, .string t.text, .int .i64 t.n, .int .i64 t.at_] 60 (0, 0)) = w' := ⟨_, rfl⟩
 have hb2 : Below w1.heap.size w1 w2 := hw2 ▸ (Below.refl _ _).alloc (Nat.le_refl _) _
 have hz2 : w2.heap[w1.heap.size]? = some (.cells #[.int .i64 t.kind, .string t.text, .int .i64 t.n, .int .i64 t.at_] 60 (0, 0)) := hw2 ▸ heap_alloc_new _ _
 obtain ⟨T, hT⟩ : ∃ T, w1.heap.size = T := ⟨_, rfl⟩
 rw [hw2, hT]
 rw [hT] at hz2
 have HPT : Hid (P < T) := Lib.hid (by rw [← hT]; exact blk_lt HP1.out)
 have HB2 := Lib.hid (HB1.out.trans (hb2.mono HB1.out.size))
 have HP2 := Lib.hid ((hb2.block P (blk_lt HP1.out)).trans HP1.out)
 have HT2 := Lib.hid hz2
 clear hb2 hz2 hw2 hT
 refine (xis_any t ⟨#[45]⟩ w2).mono ?_
 rw [K45.out]
 rintro r w3 ⟨rfl, hb3⟩
 have HB3 := Lib.hid (HB2.out.trans (hb3.mono HB2.out.size))
 have HP3 := Lib.hid ((hb3.block P (blk_lt HP2.out)).trans HP2.out)
 have HT3 := Lib.hid ((hb3.block T (blk_lt HT2.out)).trans HT2.out)
 clear hb3
 (try clear x0 x1 x2 x3)
 obtain ⟨⟨x0, x1, x2, x3⟩, _⟩ := blk4' HT3.out
 go_wp2_with fail
 refine (xis_any t ⟨#[33]⟩ w3).mono ?_
 rw [K33.out]
 rintro r w4 ⟨rfl, hb4⟩
 have HB4 := Lib.hid (HB3.out.trans (hb4.mono HB3.out.size))
 have HP4 := Lib.hid ((hb4.block P (blk_lt HP3.out)).trans HP3.out)
 have HT4 := Lib.hid ((hb4.block T (blk_lt HT3.out)).trans HT3.out)
 clear hb4
 (try clear x0 x1 x2 x3)
 obtain ⟨⟨x0, x1, x2, x3⟩, _⟩ := blk4' HT4.out
 go_wp2_with fail
 refine (xis_any t ⟨#[40]⟩ w4).mono ?_
 rw [K40.out]
 rintro r w5 ⟨rfl, hb5⟩
 have HB5 := Lib.hid (HB4.out.trans (hb5.mono HB4.out.size))
 have HP5 := Lib.hid ((hb5.block P (blk_lt HP4.out)).trans HP4.out)
 have HT5 := Lib.hid ((hb5.block T (blk_lt HT4.out)).trans HT4.out)
 clear hb5
 (try clear x0 x1 x2 x3)
 obtain ⟨⟨x0, x1, x2, x3⟩, _⟩ := blk4' HT5.out
 have hpt := HPT.out
 obtain ⟨⟨z0, z1, z2, z3⟩, f0, f1, f2, f3⟩ := blk4 HP5.out
 go_wp2
 refine bodyPost_ret (v := .tuple #[.agg #[.int .i64 0, .int .i64 0, .string ⟨#[]⟩, .slice none 0 0], .int .i64 2, .int .i64 at_]) (by simp [results, Tryz.results132, go_sem, *]) rfl ?_
 refine ⟨none, 0, rfl, ExF.leaf rfl, ?_⟩
 first
 | exact HB5.out
 | exact below_set4' HB5.out (by rw [HPW.out]; exact Nat.le_refl _) _ _ _ _
set_option maxHeartbeats 8000000 in
set_option maxRecDepth 100000 in
theorem xun_long_num (l : List Tok) (A : Option Addr) (c : Nat) (first at_ : Int) (t : Tok) (w : World) (hr : tokK.Row [] w A l) (hlc : l.length ≤ c) (ht : tokAt l at_ = t) (hf0 : 0 ≤ first) (hf1 : first ≤ 1152921504606846976) (h1 : first ≤ at_) (h3 : at_ ≤ first + 64) (k45 : (t.kind == 4 && seq t.text ⟨#[45]⟩) = false) (k33 : (t.kind == 4 && seq t.text ⟨#[33]⟩) = false) (k40 : (t.kind == 4 && seq t.text ⟨#[40]⟩) = false) (hk : t.kind = 2) (h64 : 64 ≤ at_ - first) :
  Calls Tryz.prog 132 #[.slice A l.length c, .int .i64 first, .int .i64 at_] w (TakePost w.heap.size (zEx, 2, at_) w) := by
 have hu : True := And.elim (fun _ _ => trivial) (And.intro (And.intro hf0 hf1) (And.intro h1 h3))
 clear hu
 have n2 : (t.kind == 2) = true := beq_iff_eq.2 hk
 have m2 : (t.kind != 2) = false := bne_eq_false_iff_eq.2 hk
 have n1 : (t.kind == 1) = false := beq_eq_false_iff_ne.2 (by omega)
 have m1 : (t.kind != 1) = true := bne_iff_ne.2 (by omega)
 have g1 : (64 : Int) ≤ at_ - first := h64
 clear hk
 have HR := Lib.hid hr
 have HTK := Lib.hid ht
 have K45 : Hid ((t.kind == 4 && seq t.text ⟨#[45]⟩) = false) := Lib.hid k45
 have K33 : Hid ((t.kind == 4 && seq t.text ⟨#[33]⟩) = false) := Lib.hid k33
 have K40 : Hid ((t.kind == 4 && seq t.text ⟨#[40]⟩) = false) := Lib.hid k40
 clear hr ht k45 k33 k40
 go_enter Tryz.func132, Tryz.ntmps132
 go_wp2_with fail
 obtain ⟨w0, hw0⟩ : ∃ w', w.alloc (.cells #[.int .i64 0, .int .i64 0, .string ⟨#[]⟩, .slice none 0 0] 41 (0, 0)) = w' := ⟨_, rfl⟩
 have hb0 : Below w.heap.size w w0 := hw0 ▸ (Below.refl _ _).alloc (Nat.le_refl _) _
 have hz0 : w0.heap[w.heap.size]? = some (.cells #[.int .i64 0, .int .i64 0, .string ⟨#[]⟩, .slice none 0 0] 41 (0, 0)) := hw0 ▸ heap_alloc_new _ _
 obtain ⟨P, hP⟩ : ∃ P, w.heap.size = P := ⟨_, rfl⟩
 rw [hw0, hP]
 rw [hP] at hz0
 have HPW := Lib.hid hP
 have HB0 := Lib.hid hb0
 have HP0 := Lib.hid hz0
 clear hb0 hz0 hw0 hP
 refine (xtoken_any l A c at_ w0 (HR.out.keep (Same.of_below HB0.out)) hlc).mono ?_
 rw [HTK.out]
 rintro r w1 ⟨rfl, hb1⟩
 have HB1 := Lib.hid (HB0.out.trans (hb1.mono HB0.out.size))
 have HP1 := Lib.hid ((hb1.block P (blk_lt HP0.out)).trans HP0.out)
 clear hb1
 go_wp2_with fail
 obtain ⟨w2, hw2⟩ : ∃ w', w1.alloc (.cells #[.int .i64 t.kind, .string t.text, .int .i64 t.n, .int .i64 t.at_] 60 (0, 0)) = w' := ⟨_, rfl⟩
 have hb2 : Below w1.heap.size w1 w2 := hw2 ▸ (Below.refl _ _).alloc (Nat.le_refl _) _
 have hz2 : w2.heap[w1.heap.size]? = some (.cells #[.int .i64 t.kind, .string t.text, .int .i64 t.n, .int .i64 t.at_] 60 (0, 0)) := hw2 ▸ heap_alloc_new _ _
 obtain ⟨T, hT⟩ : ∃ T, w1.heap.size = T := ⟨_, rfl⟩
 rw [hw2, hT]
 rw [hT] at hz2
 have HPT : Hid (P < T) := Lib.hid (by rw [← hT]; exact blk_lt HP1.out)
 have HB2 := Lib.hid (HB1.out.trans (hb2.mono HB1.out.size))
 have HP2 := Lib.hid ((hb2.block P (blk_lt HP1.out)).trans HP1.out)
 have HT2 := Lib.hid hz2
 clear hb2 hz2 hw2 hT
 refine (xis_any t ⟨#[45]⟩ w2).mono ?_
 rw [K45.out]
 rintro r w3 ⟨rfl, hb3⟩
 have HB3 := Lib.hid (HB2.out.trans (hb3.mono HB2.out.size))
 have HP3 := Lib.hid ((hb3.block P (blk_lt HP2.out)).trans HP2.out)
 have HT3 := Lib.hid ((hb3.block T (blk_lt HT2.out)).trans HT2.out)
 clear hb3
 (try clear x0 x1 x2 x3)
 obtain ⟨⟨x0, x1, x2, x3⟩, _⟩ := blk4' HT3.out
 go_wp2_with fail
 refine (xis_any t ⟨#[33]⟩ w3).mono ?_
 rw [K33.out]
 rintro r w4 ⟨rfl, hb4⟩
 have HB4 := Lib.hid (HB3.out.trans (hb4.mono HB3.out.size))
 have HP4 := Lib.hid ((hb4.block P (blk_lt HP3.out)).trans HP3.out)
 have HT4 := Lib.hid ((hb4.block T (blk_lt HT3.out)).trans HT3.out)
 clear hb4
 (try clear x0 x1 x2 x3)
 obtain ⟨⟨x0, x1, x2, x3⟩, _⟩ := blk4' HT4.out
 go_wp2_with fail
 refine (xis_any t ⟨#[40]⟩ w4).mono ?_
 rw [K40.out]
 rintro r w5 ⟨rfl, hb5⟩
 have HB5 := Lib.hid (HB4.out.trans (hb5.mono HB4.out.size))
 have HP5 := Lib.hid ((hb5.block P (blk_lt HP4.out)).trans HP4.out)
 have HT5 := Lib.hid ((hb5.block T (blk_lt HT4.out)).trans HT4.out)
 clear hb5
 (try clear x0 x1 x2 x3)
 obtain ⟨⟨x0, x1, x2, x3⟩, _⟩ := blk4' HT5.out
 have hpt := HPT.out
 obtain ⟨⟨z0, z1, z2, z3⟩, f0, f1, f2, f3⟩ := blk4 HP5.out
 go_wp2
 refine bodyPost_ret (v := .tuple #[.agg #[.int .i64 0, .int .i64 0, .string ⟨#[]⟩, .slice none 0 0], .int .i64 2, .int .i64 at_]) (by simp [results, Tryz.results132, go_sem, *]) rfl ?_
 refine ⟨none, 0, rfl, ExF.leaf rfl, ?_⟩
 first
 | exact HB5.out
 | exact below_set4' HB5.out (by rw [HPW.out]; exact Nat.le_refl _) _ _ _ _
set_option maxHeartbeats 8000000 in
set_option maxRecDepth 100000 in
theorem xun_long_name (l : List Tok) (A : Option Addr) (c : Nat) (first at_ : Int) (t : Tok) (w : World) (hr : tokK.Row [] w A l) (hlc : l.length ≤ c) (ht : tokAt l at_ = t) (hf0 : 0 ≤ first) (hf1 : first ≤ 1152921504606846976) (h1 : first ≤ at_) (h3 : at_ ≤ first + 64) (k45 : (t.kind == 4 && seq t.text ⟨#[45]⟩) = false) (k33 : (t.kind == 4 && seq t.text ⟨#[33]⟩) = false) (k40 : (t.kind == 4 && seq t.text ⟨#[40]⟩) = false) (hk : t.kind = 1) (h64 : 64 ≤ at_ - first) :
  Calls Tryz.prog 132 #[.slice A l.length c, .int .i64 first, .int .i64 at_] w (TakePost w.heap.size (zEx, 2, at_) w) := by
 have hu : True := And.elim (fun _ _ => trivial) (And.intro (And.intro hf0 hf1) (And.intro h1 h3))
 clear hu
 have n2 : (t.kind == 2) = false := beq_eq_false_iff_ne.2 (by omega)
 have m2 : (t.kind != 2) = true := bne_iff_ne.2 (by omega)
 have n1 : (t.kind == 1) = true := beq_iff_eq.2 hk
 have m1 : (t.kind != 1) = false := bne_eq_false_iff_eq.2 hk
 have g1 : (64 : Int) ≤ at_ - first := h64
 clear hk
 have HR := Lib.hid hr
 have HTK := Lib.hid ht
 have K45 : Hid ((t.kind == 4 && seq t.text ⟨#[45]⟩) = false) := Lib.hid k45
 have K33 : Hid ((t.kind == 4 && seq t.text ⟨#[33]⟩) = false) := Lib.hid k33
 have K40 : Hid ((t.kind == 4 && seq t.text ⟨#[40]⟩) = false) := Lib.hid k40
 clear hr ht k45 k33 k40
 go_enter Tryz.func132, Tryz.ntmps132
 go_wp2_with fail
 obtain ⟨w0, hw0⟩ : ∃ w', w.alloc (.cells #[.int .i64 0, .int .i64 0, .string ⟨#[]⟩, .slice none 0 0] 41 (0, 0)) = w' := ⟨_, rfl⟩
 have hb0 : Below w.heap.size w w0 := hw0 ▸ (Below.refl _ _).alloc (Nat.le_refl _) _
 have hz0 : w0.heap[w.heap.size]? = some (.cells #[.int .i64 0, .int .i64 0, .string ⟨#[]⟩, .slice none 0 0] 41 (0, 0)) := hw0 ▸ heap_alloc_new _ _
 obtain ⟨P, hP⟩ : ∃ P, w.heap.size = P := ⟨_, rfl⟩
 rw [hw0, hP]
 rw [hP] at hz0
 have HPW := Lib.hid hP
 have HB0 := Lib.hid hb0
 have HP0 := Lib.hid hz0
 clear hb0 hz0 hw0 hP
 refine (xtoken_any l A c at_ w0 (HR.out.keep (Same.of_below HB0.out)) hlc).mono ?_
 rw [HTK.out]
 rintro r w1 ⟨rfl, hb1⟩
 have HB1 := Lib.hid (HB0.out.trans (hb1.mono HB0.out.size))
 have HP1 := Lib.hid ((hb1.block P (blk_lt HP0.out)).trans HP0.out)
 clear hb1
 go_wp2_with fail
 obtain ⟨w2, hw2⟩ : ∃ w', w1.alloc (.cells #[.int .i64 t.kind, .string t.text, .int .i64 t.n, .int .i64 t.at_] 60 (0, 0)) = w' := ⟨_, rfl⟩
 have hb2 : Below w1.heap.size w1 w2 := hw2 ▸ (Below.refl _ _).alloc (Nat.le_refl _) _
 have hz2 : w2.heap[w1.heap.size]? = some (.cells #[.int .i64 t.kind, .string t.text, .int .i64 t.n, .int .i64 t.at_] 60 (0, 0)) := hw2 ▸ heap_alloc_new _ _
 obtain ⟨T, hT⟩ : ∃ T, w1.heap.size = T := ⟨_, rfl⟩
 rw [hw2, hT]
 rw [hT] at hz2
 have HPT : Hid (P < T) := Lib.hid (by rw [← hT]; exact blk_lt HP1.out)
 have HB2 := Lib.hid (HB1.out.trans (hb2.mono HB1.out.size))
 have HP2 := Lib.hid ((hb2.block P (blk_lt HP1.out)).trans HP1.out)
 have HT2 := Lib.hid hz2
 clear hb2 hz2 hw2 hT
 refine (xis_any t ⟨#[45]⟩ w2).mono ?_
 rw [K45.out]
 rintro r w3 ⟨rfl, hb3⟩
 have HB3 := Lib.hid (HB2.out.trans (hb3.mono HB2.out.size))
 have HP3 := Lib.hid ((hb3.block P (blk_lt HP2.out)).trans HP2.out)
 have HT3 := Lib.hid ((hb3.block T (blk_lt HT2.out)).trans HT2.out)
 clear hb3
 (try clear x0 x1 x2 x3)
 obtain ⟨⟨x0, x1, x2, x3⟩, _⟩ := blk4' HT3.out
 go_wp2_with fail
 refine (xis_any t ⟨#[33]⟩ w3).mono ?_
 rw [K33.out]
 rintro r w4 ⟨rfl, hb4⟩
 have HB4 := Lib.hid (HB3.out.trans (hb4.mono HB3.out.size))
 have HP4 := Lib.hid ((hb4.block P (blk_lt HP3.out)).trans HP3.out)
 have HT4 := Lib.hid ((hb4.block T (blk_lt HT3.out)).trans HT3.out)
 clear hb4
 (try clear x0 x1 x2 x3)
 obtain ⟨⟨x0, x1, x2, x3⟩, _⟩ := blk4' HT4.out
 go_wp2_with fail
 refine (xis_any t ⟨#[40]⟩ w4).mono ?_
 rw [K40.out]
 rintro r w5 ⟨rfl, hb5⟩
 have HB5 := Lib.hid (HB4.out.trans (hb5.mono HB4.out.size))
 have HP5 := Lib.hid ((hb5.block P (blk_lt HP4.out)).trans HP4.out)
 have HT5 := Lib.hid ((hb5.block T (blk_lt HT4.out)).trans HT4.out)
 clear hb5
 (try clear x0 x1 x2 x3)
 obtain ⟨⟨x0, x1, x2, x3⟩, _⟩ := blk4' HT5.out
 have hpt := HPT.out
 obtain ⟨⟨z0, z1, z2, z3⟩, f0, f1, f2, f3⟩ := blk4 HP5.out
 go_wp2
 refine bodyPost_ret (v := .tuple #[.agg #[.int .i64 0, .int .i64 0, .string ⟨#[]⟩, .slice none 0 0], .int .i64 2, .int .i64 at_]) (by simp [results, Tryz.results132, go_sem, *]) rfl ?_
 refine ⟨none, 0, rfl, ExF.leaf rfl, ?_⟩
 first
 | exact HB5.out
 | exact below_set4' HB5.out (by rw [HPW.out]; exact Nat.le_refl _) _ _ _ _
set_option maxHeartbeats 8000000 in
set_option maxRecDepth 100000 in
theorem xun_num (l : List Tok) (A : Option Addr) (c : Nat) (first at_ : Int) (t : Tok) (w : World) (hr : tokK.Row [] w A l) (hlc : l.length ≤ c) (ht : tokAt l at_ = t) (hf0 : 0 ≤ first) (hf1 : first ≤ 1152921504606846976) (h1 : first ≤ at_) (h3 : at_ ≤ first + 64) (k45 : (t.kind == 4 && seq t.text ⟨#[45]⟩) = false) (k33 : (t.kind == 4 && seq t.text ⟨#[33]⟩) = false) (k40 : (t.kind == 4 && seq t.text ⟨#[40]⟩) = false) (hk : t.kind = 2) (h64 : at_ - first < 64) :
  Calls Tryz.prog 132 #[.slice A l.length c, .int .i64 first, .int .i64 at_] w (TakePost w.heap.size (.mk 0 t.n ⟨#[]⟩ [], 0, at_ + 1) w) := by
 have hu : True := And.elim (fun _ _ => trivial) (And.intro (And.intro hf0 hf1) (And.intro h1 h3))
 clear hu
 have n2 : (t.kind == 2) = true := beq_iff_eq.2 hk
 have m2 : (t.kind != 2) = false := bne_eq_false_iff_eq.2 hk
 have n1 : (t.kind == 1) = false := beq_eq_false_iff_ne.2 (by omega)
 have m1 : (t.kind != 1) = true := bne_iff_ne.2 (by omega)
 have g1 : at_ - first < 64 := h64
 clear hk
 have HR := Lib.hid hr
 have HTK := Lib.hid ht
 have K45 : Hid ((t.kind == 4 && seq t.text ⟨#[45]⟩) = false) := Lib.hid k45
 have K33 : Hid ((t.kind == 4 && seq t.text ⟨#[33]⟩) = false) := Lib.hid k33
 have K40 : Hid ((t.kind == 4 && seq t.text ⟨#[40]⟩) = false) := Lib.hid k40
 clear hr ht k45 k33 k40
 go_enter Tryz.func132, Tryz.ntmps132
 go_wp2_with fail
 obtain ⟨w0, hw0⟩ : ∃ w', w.alloc (.cells #[.int .i64 0, .int .i64 0, .string ⟨#[]⟩, .slice none 0 0] 41 (0, 0)) = w' := ⟨_, rfl⟩
 have hb0 : Below w.heap.size w w0 := hw0 ▸ (Below.refl _ _).alloc (Nat.le_refl _) _
 have hz0 : w0.heap[w.heap.size]? = some (.cells #[.int .i64 0, .int .i64 0, .string ⟨#[]⟩, .slice none 0 0] 41 (0, 0)) := hw0 ▸ heap_alloc_new _ _
 obtain ⟨P, hP⟩ : ∃ P, w.heap.size = P := ⟨_, rfl⟩
 rw [hw0, hP]
 rw [hP] at hz0
 have HPW := Lib.hid hP
 have HB0 := Lib.hid hb0
 have HP0 := Lib.hid hz0
 clear hb0 hz0 hw0 hP
 refine (xtoken_any l A c at_ w0 (HR.out.keep (Same.of_below HB0.out)) hlc).mono ?_
 rw [HTK.out]
 rintro r w1 ⟨rfl, hb1⟩
 have HB1 := Lib.hid (HB0.out.trans (hb1.mono HB0.out.size))
 have HP1 := Lib.hid ((hb1.block P (blk_lt HP0.out)).trans HP0.out)
 clear hb1
 go_wp2_with fail
 obtain ⟨w2, hw2⟩ : ∃ w', w1.alloc (.cells #[.int .i64 t.kind, .string t.text, .int .i64 t.n, .int .i64 t.at_] 60 (0, 0)) = w' := ⟨_, rfl⟩
 have hb2 : Below w1.heap.size w1 w2 := hw2 ▸ (Below.refl _ _).alloc (Nat.le_refl _) _
 have hz2 : w2.heap[w1.heap.size]? = some (.cells #[.int .i64 t.kind, .string t.text, .int .i64 t.n, .int .i64 t.at_] 60 (0, 0)) := hw2 ▸ heap_alloc_new _ _
 obtain ⟨T, hT⟩ : ∃ T, w1.heap.size = T := ⟨_, rfl⟩
 rw [hw2, hT]
 rw [hT] at hz2
 have HPT : Hid (P < T) := Lib.hid (by rw [← hT]; exact blk_lt HP1.out)
 have HB2 := Lib.hid (HB1.out.trans (hb2.mono HB1.out.size))
 have HP2 := Lib.hid ((hb2.block P (blk_lt HP1.out)).trans HP1.out)
 have HT2 := Lib.hid hz2
 clear hb2 hz2 hw2 hT
 refine (xis_any t ⟨#[45]⟩ w2).mono ?_
 rw [K45.out]
 rintro r w3 ⟨rfl, hb3⟩
 have HB3 := Lib.hid (HB2.out.trans (hb3.mono HB2.out.size))
 have HP3 := Lib.hid ((hb3.block P (blk_lt HP2.out)).trans HP2.out)
 have HT3 := Lib.hid ((hb3.block T (blk_lt HT2.out)).trans HT2.out)
 clear hb3
 (try clear x0 x1 x2 x3)
 obtain ⟨⟨x0, x1, x2, x3⟩, _⟩ := blk4' HT3.out
 go_wp2_with fail
 refine (xis_any t ⟨#[33]⟩ w3).mono ?_
 rw [K33.out]
 rintro r w4 ⟨rfl, hb4⟩
 have HB4 := Lib.hid (HB3.out.trans (hb4.mono HB3.out.size))
 have HP4 := Lib.hid ((hb4.block P (blk_lt HP3.out)).trans HP3.out)
 have HT4 := Lib.hid ((hb4.block T (blk_lt HT3.out)).trans HT3.out)
 clear hb4
 (try clear x0 x1 x2 x3)
 obtain ⟨⟨x0, x1, x2, x3⟩, _⟩ := blk4' HT4.out
 go_wp2_with fail
 refine (xis_any t ⟨#[40]⟩ w4).mono ?_
 rw [K40.out]
 rintro r w5 ⟨rfl, hb5⟩
 have HB5 := Lib.hid (HB4.out.trans (hb5.mono HB4.out.size))
 have HP5 := Lib.hid ((hb5.block P (blk_lt HP4.out)).trans HP4.out)
 have HT5 := Lib.hid ((hb5.block T (blk_lt HT4.out)).trans HT4.out)
 clear hb5
 (try clear x0 x1 x2 x3)
 obtain ⟨⟨x0, x1, x2, x3⟩, _⟩ := blk4' HT5.out
 have hpt := HPT.out
 obtain ⟨⟨z0, z1, z2, z3⟩, f0, f1, f2, f3⟩ := blk4 HP5.out
 go_wp2
 refine bodyPost_ret (v := .tuple #[.agg #[.int .i64 0, .int .i64 t.n, .string ⟨#[]⟩, .slice none 0 0], .int .i64 0, .int .i64 (at_ + 1)]) (by simp [results, Tryz.results132, go_sem, *]) rfl ?_
 refine ⟨none, 0, rfl, ExF.leaf rfl, ?_⟩
 first
 | exact HB5.out
 | exact below_set4' HB5.out (by rw [HPW.out]; exact Nat.le_refl _) _ _ _ _
set_option maxHeartbeats 8000000 in
set_option maxRecDepth 100000 in
theorem xun_name (l : List Tok) (A : Option Addr) (c : Nat) (first at_ : Int) (t : Tok) (w : World) (hr : tokK.Row [] w A l) (hlc : l.length ≤ c) (ht : tokAt l at_ = t) (hf0 : 0 ≤ first) (hf1 : first ≤ 1152921504606846976) (h1 : first ≤ at_) (h3 : at_ ≤ first + 64) (k45 : (t.kind == 4 && seq t.text ⟨#[45]⟩) = false) (k33 : (t.kind == 4 && seq t.text ⟨#[33]⟩) = false) (k40 : (t.kind == 4 && seq t.text ⟨#[40]⟩) = false) (hk : t.kind = 1) (h64 : at_ - first < 64) :
  Calls Tryz.prog 132 #[.slice A l.length c, .int .i64 first, .int .i64 at_] w (TakePost w.heap.size (.mk 1 0 t.text [], 0, at_ + 1) w) := by
 have hu : True := And.elim (fun _ _ => trivial) (And.intro (And.intro hf0 hf1) (And.intro h1 h3))
 clear hu
 have n2 : (t.kind == 2) = false := beq_eq_false_iff_ne.2 (by omega)
 have m2 : (t.kind != 2) = true := bne_iff_ne.2 (by omega)
 have n1 : (t.kind == 1) = true := beq_iff_eq.2 hk
 have m1 : (t.kind != 1) = false := bne_eq_false_iff_eq.2 hk
 have g1 : at_ - first < 64 := h64
 clear hk
 have HR := Lib.hid hr
 have HTK := Lib.hid ht
 have K45 : Hid ((t.kind == 4 && seq t.text ⟨#[45]⟩) = false) := Lib.hid k45
 have K33 : Hid ((t.kind == 4 && seq t.text ⟨#[33]⟩) = false) := Lib.hid k33
 have K40 : Hid ((t.kind == 4 && seq t.text ⟨#[40]⟩) = false) := Lib.hid k40
 clear hr ht k45 k33 k40
 go_enter Tryz.func132, Tryz.ntmps132
 go_wp2_with fail
 obtain ⟨w0, hw0⟩ : ∃ w', w.alloc (.cells #[.int .i64 0, .int .i64 0, .string ⟨#[]⟩, .slice none 0 0] 41 (0, 0)) = w' := ⟨_, rfl⟩
 have hb0 : Below w.heap.size w w0 := hw0 ▸ (Below.refl _ _).alloc (Nat.le_refl _) _
 have hz0 : w0.heap[w.heap.size]? = some (.cells #[.int .i64 0, .int .i64 0, .string ⟨#[]⟩, .slice none 0 0] 41 (0, 0)) := hw0 ▸ heap_alloc_new _ _
 obtain ⟨P, hP⟩ : ∃ P, w.heap.size = P := ⟨_, rfl⟩
 rw [hw0, hP]
 rw [hP] at hz0
 have HPW := Lib.hid hP
 have HB0 := Lib.hid hb0
 have HP0 := Lib.hid hz0
 clear hb0 hz0 hw0 hP
 refine (xtoken_any l A c at_ w0 (HR.out.keep (Same.of_below HB0.out)) hlc).mono ?_
 rw [HTK.out]
 rintro r w1 ⟨rfl, hb1⟩
 have HB1 := Lib.hid (HB0.out.trans (hb1.mono HB0.out.size))
 have HP1 := Lib.hid ((hb1.block P (blk_lt HP0.out)).trans HP0.out)
 clear hb1
 go_wp2_with fail
 obtain ⟨w2, hw2⟩ : ∃ w', w1.alloc (.cells #[.int .i64 t.kind, .string t.text, .int .i64 t.n, .int .i64 t.at_] 60 (0, 0)) = w' := ⟨_, rfl⟩
 have hb2 : Below w1.heap.size w1 w2 := hw2 ▸ (Below.refl _ _).alloc (Nat.le_refl _) _
 have hz2 : w2.heap[w1.heap.size]? = some (.cells #[.int .i64 t.kind, .string t.text, .int .i64 t.n, .int .i64 t.at_] 60 (0, 0)) := hw2 ▸ heap_alloc_new _ _
 obtain ⟨T, hT⟩ : ∃ T, w1.heap.size = T := ⟨_, rfl⟩
 rw [hw2, hT]
 rw [hT] at hz2
 have HPT : Hid (P < T) := Lib.hid (by rw [← hT]; exact blk_lt HP1.out)
 have HB2 := Lib.hid (HB1.out.trans (hb2.mono HB1.out.size))
 have HP2 := Lib.hid ((hb2.block P (blk_lt HP1.out)).trans HP1.out)
 have HT2 := Lib.hid hz2
 clear hb2 hz2 hw2 hT
 refine (xis_any t ⟨#[45]⟩ w2).mono ?_
 rw [K45.out]
 rintro r w3 ⟨rfl, hb3⟩
 have HB3 := Lib.hid (HB2.out.trans (hb3.mono HB2.out.size))
 have HP3 := Lib.hid ((hb3.block P (blk_lt HP2.out)).trans HP2.out)
 have HT3 := Lib.hid ((hb3.block T (blk_lt HT2.out)).trans HT2.out)
 clear hb3
 (try clear x0 x1 x2 x3)
 obtain ⟨⟨x0, x1, x2, x3⟩, _⟩ := blk4' HT3.out
 go_wp2_with fail
 refine (xis_any t ⟨#[33]⟩ w3).mono ?_
 rw [K33.out]
 rintro r w4 ⟨rfl, hb4⟩
 have HB4 := Lib.hid (HB3.out.trans (hb4.mono HB3.out.size))
 have HP4 := Lib.hid ((hb4.block P (blk_lt HP3.out)).trans HP3.out)
 have HT4 := Lib.hid ((hb4.block T (blk_lt HT3.out)).trans HT3.out)
 clear hb4
 (try clear x0 x1 x2 x3)
 obtain ⟨⟨x0, x1, x2, x3⟩, _⟩ := blk4' HT4.out
 go_wp2_with fail
 refine (xis_any t ⟨#[40]⟩ w4).mono ?_
 rw [K40.out]
 rintro r w5 ⟨rfl, hb5⟩
 have HB5 := Lib.hid (HB4.out.trans (hb5.mono HB4.out.size))
 have HP5 := Lib.hid ((hb5.block P (blk_lt HP4.out)).trans HP4.out)
 have HT5 := Lib.hid ((hb5.block T (blk_lt HT4.out)).trans HT4.out)
 clear hb5
 (try clear x0 x1 x2 x3)
 obtain ⟨⟨x0, x1, x2, x3⟩, _⟩ := blk4' HT5.out
 have hpt := HPT.out
 obtain ⟨⟨z0, z1, z2, z3⟩, f0, f1, f2, f3⟩ := blk4 HP5.out
 go_wp2
 refine bodyPost_ret (v := .tuple #[.agg #[.int .i64 1, .int .i64 0, .string t.text, .slice none 0 0], .int .i64 0, .int .i64 (at_ + 1)]) (by simp [results, Tryz.results132, go_sem, *]) rfl ?_
 refine ⟨none, 0, rfl, ExF.leaf rfl, ?_⟩
 first
 | exact HB5.out
 | exact below_set4' HB5.out (by rw [HPW.out]; exact Nat.le_refl _) _ _ _ _
end Go.Proofs.YtgcfjkfipkfijaaGreatDoor
namespace Go.Proofs.YtgcfjkfipkfijaaGreatDoor
open Go Go.RowKit Go.Lib
def ExBk (w : World) (k : Nat) (e : Ex) (A : Option Addr) (c : Nat) : Prop := w.heap[k]? = some (.cells #[.int .i64 e.op, .int .i64 e.n, .string e.name, .slice A e.kids.length c] 41 (0, 0))
theorem ExBk.step {w w' : World} {k : Nat} {e : Ex} {A : Option Addr} {c : Nat} (h : ExBk w k e A c) (hb : Below w.heap.size w w') : ExBk w' k e A c := (hb.block k (blk_lt h)).trans h
set_option maxHeartbeats 8000000 in
set_option maxRecDepth 100000 in
theorem xun_par_bad (l : List Tok) (A : Option Addr) (c : Nat) (first at_ : Int) (t : Tok) (w : World) (hr : tokK.Row [] w A l) (hlc : l.length ≤ c) (ht : tokAt l at_ = t) (hf0 : 0 ≤ first) (hf1 : first ≤ 1152921504606846976) (h1 : first ≤ at_) (h3 : at_ ≤ first + 64) (k45 : (t.kind == 4 && seq t.text ⟨#[45]⟩) = false) (k33 : (t.kind == 4 && seq t.text ⟨#[33]⟩) = false) (k40 : (t.kind == 4 && seq t.text ⟨#[40]⟩) = true) (hk : t.kind = 4) (h64 : at_ - first < 64) (e : Ex) (f k : Int) (hk1 : first ≤ k) (hk2 : k ≤ first + 64) (rd : ∀ W, tokK.Row [] W A l → Calls Tryz.prog 122 #[.slice A l.length c, .int .i64 first, .int .i64 (at_ + 1), .int .i64 1] W (TakePost W.heap.size (e, f, k) W)) (hf : f ≠ 0) :
  Calls Tryz.prog 132 #[.slice A l.length c, .int .i64 first, .int .i64 at_] w (TakePost w.heap.size (zEx, f, k) w) := by
 have hu : True := And.elim (fun _ _ => trivial) (And.intro (And.intro (And.intro hf0 hf1) (And.intro h1 h3)) (And.intro hk1 hk2))
 clear hu
 have n2 : (t.kind == 2) = false := beq_eq_false_iff_ne.2 (by omega)
 have m2 : (t.kind != 2) = true := bne_iff_ne.2 (by omega)
 have n1 : (t.kind == 1) = false := beq_eq_false_iff_ne.2 (by omega)
 have m1 : (t.kind != 1) = true := bne_iff_ne.2 (by omega)
 have g1 : at_ - first < 64 := h64
 have RD := Lib.hid rd
 clear hk rd
 have nf : (f != 0) = true := bnet hf
 clear hf
 have HR := Lib.hid hr
 have HTK := Lib.hid ht
 have K45 : Hid ((t.kind == 4 && seq t.text ⟨#[45]⟩) = false) := Lib.hid k45
 have K33 : Hid ((t.kind == 4 && seq t.text ⟨#[33]⟩) = false) := Lib.hid k33
 have K40 : Hid ((t.kind == 4 && seq t.text ⟨#[40]⟩) = true) := Lib.hid k40
 clear hr ht k45 k33 k40
 go_enter Tryz.func132, Tryz.ntmps132
 go_wp2_with fail
 obtain ⟨w0, hw0⟩ : ∃ w', w.alloc (.cells #[.int .i64 0, .int .i64 0, .string ⟨#[]⟩, .slice none 0 0] 41 (0, 0)) = w' := ⟨_, rfl⟩
 have hb0 : Below w.heap.size w w0 := hw0 ▸ (Below.refl _ _).alloc (Nat.le_refl _) _
 have hz0 : w0.heap[w.heap.size]? = some (.cells #[.int .i64 0, .int .i64 0, .string ⟨#[]⟩, .slice none 0 0] 41 (0, 0)) := hw0 ▸ heap_alloc_new _ _
 obtain ⟨P, hP⟩ : ∃ P, w.heap.size = P := ⟨_, rfl⟩
 rw [hw0, hP]
 rw [hP] at hz0
 have HPW := Lib.hid hP
 have HB0 := Lib.hid hb0
 have HP0 := Lib.hid hz0
 clear hb0 hz0 hw0 hP
 refine (xtoken_any l A c at_ w0 (HR.out.keep (Same.of_below HB0.out)) hlc).mono ?_
 rw [HTK.out]
 rintro r w1 ⟨rfl, hb1⟩
 have HB1 := Lib.hid (HB0.out.trans (hb1.mono HB0.out.size))
 have HP1 := Lib.hid ((hb1.block P (blk_lt HP0.out)).trans HP0.out)
 clear hb1
 go_wp2_with fail
 obtain ⟨w2, hw2⟩ : ∃ w', w1.alloc (.cells #[.int .i64 t.kind, .string t.text, .int .i64 t.n, .int .i64 t.at_] 60 (0, 0)) = w' := ⟨_, rfl⟩
 have hb2 : Below w1.heap.size w1 w2 := hw2 ▸ (Below.refl _ _).alloc (Nat.le_refl _) _
 have hz2 : w2.heap[w1.heap.size]? = some (.cells #[.int .i64 t.kind, .string t.text, .int .i64 t.n, .int .i64 t.at_] 60 (0, 0)) := hw2 ▸ heap_alloc_new _ _
 obtain ⟨T, hT⟩ : ∃ T, w1.heap.size = T := ⟨_, rfl⟩
 rw [hw2, hT]
 rw [hT] at hz2
 have HPT : Hid (P < T) := Lib.hid (by rw [← hT]; exact blk_lt HP1.out)
 have HB2 := Lib.hid (HB1.out.trans (hb2.mono HB1.out.size))
 have HP2 := Lib.hid ((hb2.block P (blk_lt HP1.out)).trans HP1.out)
 have HT2 := Lib.hid hz2
 clear hb2 hz2 hw2 hT
 refine (xis_any t ⟨#[45]⟩ w2).mono ?_
 rw [K45.out]
 rintro r w3 ⟨rfl, hb3⟩
 have HB3 := Lib.hid (HB2.out.trans (hb3.mono HB2.out.size))
 have HP3 := Lib.hid ((hb3.block P (blk_lt HP2.out)).trans HP2.out)
 have HT3 := Lib.hid ((hb3.block T (blk_lt HT2.out)).trans HT2.out)
 clear hb3
 (try clear x0 x1 x2 x3)
 obtain ⟨⟨x0, x1, x2, x3⟩, _⟩ := blk4' HT3.out
 go_wp2_with fail
 refine (xis_any t ⟨#[33]⟩ w3).mono ?_
 rw [K33.out]
 rintro r w4 ⟨rfl, hb4⟩
 have HB4 := Lib.hid (HB3.out.trans (hb4.mono HB3.out.size))
 have HP4 := Lib.hid ((hb4.block P (blk_lt HP3.out)).trans HP3.out)
 have HT4 := Lib.hid ((hb4.block T (blk_lt HT3.out)).trans HT3.out)
 clear hb4
 (try clear x0 x1 x2 x3)
 obtain ⟨⟨x0, x1, x2, x3⟩, _⟩ := blk4' HT4.out
 go_wp2_with fail
 refine (xis_any t ⟨#[40]⟩ w4).mono ?_
 rw [K40.out]
 rintro r w5 ⟨rfl, hb5⟩
 have HB5 := Lib.hid (HB4.out.trans (hb5.mono HB4.out.size))
 have HP5 := Lib.hid ((hb5.block P (blk_lt HP4.out)).trans HP4.out)
 have HT5 := Lib.hid ((hb5.block T (blk_lt HT4.out)).trans HT4.out)
 clear hb5
 (try clear x0 x1 x2 x3)
 obtain ⟨⟨x0, x1, x2, x3⟩, _⟩ := blk4' HT5.out
 have hpt := HPT.out
 obtain ⟨⟨z0, z1, z2, z3⟩, f0, f1, f2, f3⟩ := blk4 HP5.out
 go_wp2_with fail
 refine (RD.out w5 (HR.out.keep (Same.of_below HB5.out))).mono ?_
 rintro r w6 ⟨B, d, rfl, hx6, hb6⟩
 have HB6 := Lib.hid (HB5.out.trans (hb6.mono HB5.out.size))
 have HP6 := Lib.hid ((hb6.block P (blk_lt HP5.out)).trans HP5.out)
 have HT6 := Lib.hid ((hb6.block T (blk_lt HT5.out)).trans HT5.out)
 clear hx6 hb6
 clear z0 z1 z2 z3 f0 f1 f2 f3
 (try clear x0 x1 x2 x3)
 obtain ⟨⟨z0, z1, z2, z3⟩, f0, f1, f2, f3⟩ := blk4 HP6.out
 obtain ⟨⟨x0, x1, x2, x3⟩, _⟩ := blk4' HT6.out
 have hl6 := blk_lt HP6.out
 go_wp2
 refine bodyPost_ret (v := .tuple #[.agg #[.int .i64 0, .int .i64 0, .string ⟨#[]⟩, .slice none 0 0], .int .i64 f, .int .i64 k]) (by simp [results, Tryz.results132, go_sem, *]) rfl ?_
 refine ⟨none, 0, rfl, ExF.leaf rfl, ?_⟩
 first
 | exact (below_set4' HB6.out (by rw [HPW.out]; exact Nat.le_refl _) _ _ _ _).alloc (by simpa using HB6.out.size) _
 | exact below_set4' (HB6.out.alloc HB6.out.size _) (by rw [HPW.out]; exact Nat.le_refl _) _ _ _ _
set_option maxHeartbeats 8000000 in
set_option maxRecDepth 100000 in
theorem xun_par_x (l : List Tok) (A : Option Addr) (c : Nat) (first at_ : Int) (t : Tok) (w : World) (hr : tokK.Row [] w A l) (hlc : l.length ≤ c) (ht : tokAt l at_ = t) (hf0 : 0 ≤ first) (hf1 : first ≤ 1152921504606846976) (h1 : first ≤ at_) (h3 : at_ ≤ first + 64) (k45 : (t.kind == 4 && seq t.text ⟨#[45]⟩) = false) (k33 : (t.kind == 4 && seq t.text ⟨#[33]⟩) = false) (k40 : (t.kind == 4 && seq t.text ⟨#[40]⟩) = true) (hk : t.kind = 4) (h64 : at_ - first < 64) (e : Ex) (f k : Int) (hk1 : first ≤ k) (hk2 : k ≤ first + 64) (rd : ∀ W, tokK.Row [] W A l → Calls Tryz.prog 122 #[.slice A l.length c, .int .i64 first, .int .i64 (at_ + 1), .int .i64 1] W (TakePost W.heap.size (e, f, k) W)) (hf : f = 0) (t2 : Tok) (ht2 : tokAt l k = t2) (k41 : (t2.kind == 4 && seq t2.text ⟨#[41]⟩) = false) :
  Calls Tryz.prog 132 #[.slice A l.length c, .int .i64 first, .int .i64 at_] w (TakePost w.heap.size (zEx, 11, k) w) := by
 have hu : True := And.elim (fun _ _ => trivial) (And.intro (And.intro (And.intro hf0 hf1) (And.intro h1 h3)) (And.intro hk1 hk2))
 clear hu
 have n2 : (t.kind == 2) = false := beq_eq_false_iff_ne.2 (by omega)
 have m2 : (t.kind != 2) = true := bne_iff_ne.2 (by omega)
 have n1 : (t.kind == 1) = false := beq_eq_false_iff_ne.2 (by omega)
 have m1 : (t.kind != 1) = true := bne_iff_ne.2 (by omega)
 have g1 : at_ - first < 64 := h64
 have RD := Lib.hid rd
 clear hk rd
 subst hf
 have HT2K := Lib.hid ht2
 have K41 := Lib.hid k41
 clear ht2 k41
 have HR := Lib.hid hr
 have HTK := Lib.hid ht
 have K45 : Hid ((t.kind == 4 && seq t.text ⟨#[45]⟩) = false) := Lib.hid k45
 have K33 : Hid ((t.kind == 4 && seq t.text ⟨#[33]⟩) = false) := Lib.hid k33
 have K40 : Hid ((t.kind == 4 && seq t.text ⟨#[40]⟩) = true) := Lib.hid k40
 clear hr ht k45 k33 k40
 go_enter Tryz.func132, Tryz.ntmps132
 go_wp2_with fail
 obtain ⟨w0, hw0⟩ : ∃ w', w.alloc (.cells #[.int .i64 0, .int .i64 0, .string ⟨#[]⟩, .slice none 0 0] 41 (0, 0)) = w' := ⟨_, rfl⟩
 have hb0 : Below w.heap.size w w0 := hw0 ▸ (Below.refl _ _).alloc (Nat.le_refl _) _
 have hz0 : w0.heap[w.heap.size]? = some (.cells #[.int .i64 0, .int .i64 0, .string ⟨#[]⟩, .slice none 0 0] 41 (0, 0)) := hw0 ▸ heap_alloc_new _ _
 obtain ⟨P, hP⟩ : ∃ P, w.heap.size = P := ⟨_, rfl⟩
 rw [hw0, hP]
 rw [hP] at hz0
 have HPW := Lib.hid hP
 have HB0 := Lib.hid hb0
 have HP0 := Lib.hid hz0
 clear hb0 hz0 hw0 hP
 refine (xtoken_any l A c at_ w0 (HR.out.keep (Same.of_below HB0.out)) hlc).mono ?_
 rw [HTK.out]
 rintro r w1 ⟨rfl, hb1⟩
 have HB1 := Lib.hid (HB0.out.trans (hb1.mono HB0.out.size))
 have HP1 := Lib.hid ((hb1.block P (blk_lt HP0.out)).trans HP0.out)
 clear hb1
 go_wp2_with fail
 obtain ⟨w2, hw2⟩ : ∃ w', w1.alloc (.cells #[.int .i64 t.kind, .string t.text, .int .i64 t.n, .int .i64 t.at_] 60 (0, 0)) = w' := ⟨_, rfl⟩
 have hb2 : Below w1.heap.size w1 w2 := hw2 ▸ (Below.refl _ _).alloc (Nat.le_refl _) _
 have hz2 : w2.heap[w1.heap.size]? = some (.cells #[.int .i64 t.kind, .string t.text, .int .i64 t.n, .int .i64 t.at_] 60 (0, 0)) := hw2 ▸ heap_alloc_new _ _
 obtain ⟨T, hT⟩ : ∃ T, w1.heap.size = T := ⟨_, rfl⟩
 rw [hw2, hT]
 rw [hT] at hz2
 have HPT : Hid (P < T) := Lib.hid (by rw [← hT]; exact blk_lt HP1.out)
 have HB2 := Lib.hid (HB1.out.trans (hb2.mono HB1.out.size))
 have HP2 := Lib.hid ((hb2.block P (blk_lt HP1.out)).trans HP1.out)
 have HT2 := Lib.hid hz2
 clear hb2 hz2 hw2 hT
 refine (xis_any t ⟨#[45]⟩ w2).mono ?_
 rw [K45.out]
 rintro r w3 ⟨rfl, hb3⟩
 have HB3 := Lib.hid (HB2.out.trans (hb3.mono HB2.out.size))
 have HP3 := Lib.hid ((hb3.block P (blk_lt HP2.out)).trans HP2.out)
 have HT3 := Lib.hid ((hb3.block T (blk_lt HT2.out)).trans HT2.out)
 clear hb3
 (try clear x0 x1 x2 x3)
 obtain ⟨⟨x0, x1, x2, x3⟩, _⟩ := blk4' HT3.out
 go_wp2_with fail
 refine (xis_any t ⟨#[33]⟩ w3).mono ?_
 rw [K33.out]
 rintro r w4 ⟨rfl, hb4⟩
 have HB4 := Lib.hid (HB3.out.trans (hb4.mono HB3.out.size))
 have HP4 := Lib.hid ((hb4.block P (blk_lt HP3.out)).trans HP3.out)
 have HT4 := Lib.hid ((hb4.block T (blk_lt HT3.out)).trans HT3.out)
 clear hb4
 (try clear x0 x1 x2 x3)
 obtain ⟨⟨x0, x1, x2, x3⟩, _⟩ := blk4' HT4.out
 go_wp2_with fail
 refine (xis_any t ⟨#[40]⟩ w4).mono ?_
 rw [K40.out]
 rintro r w5 ⟨rfl, hb5⟩
 have HB5 := Lib.hid (HB4.out.trans (hb5.mono HB4.out.size))
 have HP5 := Lib.hid ((hb5.block P (blk_lt HP4.out)).trans HP4.out)
 have HT5 := Lib.hid ((hb5.block T (blk_lt HT4.out)).trans HT4.out)
 clear hb5
 (try clear x0 x1 x2 x3)
 obtain ⟨⟨x0, x1, x2, x3⟩, _⟩ := blk4' HT5.out
 have hpt := HPT.out
 obtain ⟨⟨z0, z1, z2, z3⟩, f0, f1, f2, f3⟩ := blk4 HP5.out
 go_wp2_with fail
 refine (RD.out w5 (HR.out.keep (Same.of_below HB5.out))).mono ?_
 rintro r w6 ⟨B, d, rfl, hx6, hb6⟩
 have HB6 := Lib.hid (HB5.out.trans (hb6.mono HB5.out.size))
 have HP6 := Lib.hid ((hb6.block P (blk_lt HP5.out)).trans HP5.out)
 have HT6 := Lib.hid ((hb6.block T (blk_lt HT5.out)).trans HT5.out)
 have HX6 := Lib.hid hx6
 clear hx6 hb6
 clear z0 z1 z2 z3 f0 f1 f2 f3
 (try clear x0 x1 x2 x3)
 obtain ⟨⟨z0, z1, z2, z3⟩, f0, f1, f2, f3⟩ := blk4 HP6.out
 obtain ⟨⟨x0, x1, x2, x3⟩, _⟩ := blk4' HT6.out
 go_wp2_with fail
 obtain ⟨w7, hw7⟩ : ∃ w', w6.alloc (.cells #[.int .i64 e.op, .int .i64 e.n, .string e.name, .slice B e.kids.length d] 41 (0, 0)) = w' := ⟨_, rfl⟩
 have hb7 : Below w6.heap.size w6 w7 := hw7 ▸ (Below.refl _ _).alloc (Nat.le_refl _) _
 have hq7 : ExBk w7 w6.heap.size e B d := hw7 ▸ heap_alloc_new _ _
 obtain ⟨Q, hQ⟩ : ∃ Q, w6.heap.size = Q := ⟨_, rfl⟩
 try rw [hw7, hQ]
 rw [hQ] at hq7
 have HPQ : Hid (P < Q) := Lib.hid (by rw [← hQ]; exact blk_lt HP6.out)
 have HB7 := Lib.hid (HB6.out.trans (hb7.mono HB6.out.size))
 have HP7 := Lib.hid ((hb7.block P (blk_lt HP6.out)).trans HP6.out)
 have HT7 := Lib.hid ((hb7.block T (blk_lt HT6.out)).trans HT6.out)
 have HX7 := Lib.hid (HX6.out.below hb7)
 have HQ7 := Lib.hid hq7
 clear hb7 hq7 hw7 hQ
 clear z0 z1 z2 z3 f0 f1 f2 f3
 (try clear x0 x1 x2 x3)
 obtain ⟨⟨z0, z1, z2, z3⟩, f0, f1, f2, f3⟩ := blk4 HP7.out
 obtain ⟨⟨x0, x1, x2, x3⟩, _⟩ := blk4' HT7.out
 go_wp2_with fail
 refine (xtoken_any l A c k w7 (HR.out.keep (Same.of_below HB7.out)) hlc).mono ?_
 rw [HT2K.out]
 rintro r w8 ⟨rfl, hb8⟩
 have HB8 := Lib.hid (HB7.out.trans (hb8.mono HB7.out.size))
 have HP8 := Lib.hid ((hb8.block P (blk_lt HP7.out)).trans HP7.out)
 have HT8 := Lib.hid ((hb8.block T (blk_lt HT7.out)).trans HT7.out)
 have HX8 := Lib.hid (HX7.out.below hb8)
 have HQ8 := Lib.hid (HQ7.out.step hb8)
 clear hb8
 go_wp2_with fail
 refine (xis_any t2 ⟨#[41]⟩ w8).mono ?_
 rw [K41.out]
 rintro r w9 ⟨rfl, hb9⟩
 have HB9 := Lib.hid (HB8.out.trans (hb9.mono HB8.out.size))
 have HP9 := Lib.hid ((hb9.block P (blk_lt HP8.out)).trans HP8.out)
 have HT9 := Lib.hid ((hb9.block T (blk_lt HT8.out)).trans HT8.out)
 have HX9 := Lib.hid (HX8.out.below hb9)
 have HQ9 := Lib.hid (HQ8.out.step hb9)
 clear hb9
 clear z0 z1 z2 z3 f0 f1 f2 f3
 (try clear x0 x1 x2 x3)
 obtain ⟨⟨z0, z1, z2, z3⟩, f0, f1, f2, f3⟩ := blk4 HP9.out
 obtain ⟨⟨x0, x1, x2, x3⟩, _⟩ := blk4' HT9.out
 obtain ⟨⟨y0, y1, y2, y3⟩, _⟩ := blk4' HQ9.out
 have hpq := HPQ.out
 go_wp2
 refine bodyPost_ret (v := .tuple #[.agg #[.int .i64 0, .int .i64 0, .string ⟨#[]⟩, .slice none 0 0], .int .i64 11, .int .i64 k]) (by simp [results, Tryz.results132, go_sem, *]) rfl ?_
 refine ⟨none, 0, rfl, ExF.leaf rfl, ?_⟩
 exact below_set4' HB9.out (by rw [HPW.out]; exact Nat.le_refl _) _ _ _ _
set_option maxHeartbeats 8000000 in
set_option maxRecDepth 100000 in
theorem xun_par_long (l : List Tok) (A : Option Addr) (c : Nat) (first at_ : Int) (t : Tok) (w : World) (hr : tokK.Row [] w A l) (hlc : l.length ≤ c) (ht : tokAt l at_ = t) (hf0 : 0 ≤ first) (hf1 : first ≤ 1152921504606846976) (h1 : first ≤ at_) (h3 : at_ ≤ first + 64) (k45 : (t.kind == 4 && seq t.text ⟨#[45]⟩) = false) (k33 : (t.kind == 4 && seq t.text ⟨#[33]⟩) = false) (k40 : (t.kind == 4 && seq t.text ⟨#[40]⟩) = true) (hk : t.kind = 4) (h64 : at_ - first < 64) (e : Ex) (f k : Int) (hk1 : first ≤ k) (hk2 : k ≤ first + 64) (rd : ∀ W, tokK.Row [] W A l → Calls Tryz.prog 122 #[.slice A l.length c, .int .i64 first, .int .i64 (at_ + 1), .int .i64 1] W (TakePost W.heap.size (e, f, k) W)) (hf : f = 0) (t2 : Tok) (ht2 : tokAt l k = t2) (k41 : (t2.kind == 4 && seq t2.text ⟨#[41]⟩) = true) (hk64 : 64 ≤ k - first) :
  Calls Tryz.prog 132 #[.slice A l.length c, .int .i64 first, .int .i64 at_] w (TakePost w.heap.size (zEx, 2, k) w) := by
 have hu : True := And.elim (fun _ _ => trivial) (And.intro (And.intro (And.intro hf0 hf1) (And.intro h1 h3)) (And.intro hk1 hk2))
 clear hu
 have n2 : (t.kind == 2) = false := beq_eq_false_iff_ne.2 (by omega)
 have m2 : (t.kind != 2) = true := bne_iff_ne.2 (by omega)
 have n1 : (t.kind == 1) = false := beq_eq_false_iff_ne.2 (by omega)
 have m1 : (t.kind != 1) = true := bne_iff_ne.2 (by omega)
 have g1 : at_ - first < 64 := h64
 have RD := Lib.hid rd
 clear hk rd
 subst hf
 have HT2K := Lib.hid ht2
 have K41 := Lib.hid k41
 clear ht2 k41
 have g2 : (64 : Int) ≤ k - first := hk64
 have HR := Lib.hid hr
 have HTK := Lib.hid ht
 have K45 : Hid ((t.kind == 4 && seq t.text ⟨#[45]⟩) = false) := Lib.hid k45
 have K33 : Hid ((t.kind == 4 && seq t.text ⟨#[33]⟩) = false) := Lib.hid k33
 have K40 : Hid ((t.kind == 4 && seq t.text ⟨#[40]⟩) = true) := Lib.hid k40
 clear hr ht k45 k33 k40
 go_enter Tryz.func132, Tryz.ntmps132
 go_wp2_with fail
 obtain ⟨w0, hw0⟩ : ∃ w', w.alloc (.cells #[.int .i64 0, .int .i64 0, .string ⟨#[]⟩, .slice none 0 0] 41 (0, 0)) = w' := ⟨_, rfl⟩
 have hb0 : Below w.heap.size w w0 := hw0 ▸ (Below.refl _ _).alloc (Nat.le_refl _) _
 have hz0 : w0.heap[w.heap.size]? = some (.cells #[.int .i64 0, .int .i64 0, .string ⟨#[]⟩, .slice none 0 0] 41 (0, 0)) := hw0 ▸ heap_alloc_new _ _
 obtain ⟨P, hP⟩ : ∃ P, w.heap.size = P := ⟨_, rfl⟩
 rw [hw0, hP]
 rw [hP] at hz0
 have HPW := Lib.hid hP
 have HB0 := Lib.hid hb0
 have HP0 := Lib.hid hz0
 clear hb0 hz0 hw0 hP
 refine (xtoken_any l A c at_ w0 (HR.out.keep (Same.of_below HB0.out)) hlc).mono ?_
 rw [HTK.out]
 rintro r w1 ⟨rfl, hb1⟩
 have HB1 := Lib.hid (HB0.out.trans (hb1.mono HB0.out.size))
 have HP1 := Lib.hid ((hb1.block P (blk_lt HP0.out)).trans HP0.out)
 clear hb1
 go_wp2_with fail
 obtain ⟨w2, hw2⟩ : ∃ w', w1.alloc (.cells #[.int .i64 t.kind, .string t.text, .int .i64 t.n, .int .i64 t.at_] 60 (0, 0)) = w' := ⟨_, rfl⟩
 have hb2 : Below w1.heap.size w1 w2 := hw2 ▸ (Below.refl _ _).alloc (Nat.le_refl _) _
 have hz2 : w2.heap[w1.heap.size]? = some (.cells #[.int .i64 t.kind, .string t.text, .int .i64 t.n, .int .i64 t.at_] 60 (0, 0)) := hw2 ▸ heap_alloc_new _ _
 obtain ⟨T, hT⟩ : ∃ T, w1.heap.size = T := ⟨_, rfl⟩
 rw [hw2, hT]
 rw [hT] at hz2
 have HPT : Hid (P < T) := Lib.hid (by rw [← hT]; exact blk_lt HP1.out)
 have HB2 := Lib.hid (HB1.out.trans (hb2.mono HB1.out.size))
 have HP2 := Lib.hid ((hb2.block P (blk_lt HP1.out)).trans HP1.out)
 have HT2 := Lib.hid hz2
 clear hb2 hz2 hw2 hT
 refine (xis_any t ⟨#[45]⟩ w2).mono ?_
 rw [K45.out]
 rintro r w3 ⟨rfl, hb3⟩
 have HB3 := Lib.hid (HB2.out.trans (hb3.mono HB2.out.size))
 have HP3 := Lib.hid ((hb3.block P (blk_lt HP2.out)).trans HP2.out)
 have HT3 := Lib.hid ((hb3.block T (blk_lt HT2.out)).trans HT2.out)
 clear hb3
 (try clear x0 x1 x2 x3)
 obtain ⟨⟨x0, x1, x2, x3⟩, _⟩ := blk4' HT3.out
 go_wp2_with fail
 refine (xis_any t ⟨#[33]⟩ w3).mono ?_
 rw [K33.out]
 rintro r w4 ⟨rfl, hb4⟩
 have HB4 := Lib.hid (HB3.out.trans (hb4.mono HB3.out.size))
 have HP4 := Lib.hid ((hb4.block P (blk_lt HP3.out)).trans HP3.out)
 have HT4 := Lib.hid ((hb4.block T (blk_lt HT3.out)).trans HT3.out)
 clear hb4
 (try clear x0 x1 x2 x3)
 obtain ⟨⟨x0, x1, x2, x3⟩, _⟩ := blk4' HT4.out
 go_wp2_with fail
 refine (xis_any t ⟨#[40]⟩ w4).mono ?_
 rw [K40.out]
 rintro r w5 ⟨rfl, hb5⟩
 have HB5 := Lib.hid (HB4.out.trans (hb5.mono HB4.out.size))
 have HP5 := Lib.hid ((hb5.block P (blk_lt HP4.out)).trans HP4.out)
 have HT5 := Lib.hid ((hb5.block T (blk_lt HT4.out)).trans HT4.out)
 clear hb5
 (try clear x0 x1 x2 x3)
 obtain ⟨⟨x0, x1, x2, x3⟩, _⟩ := blk4' HT5.out
 have hpt := HPT.out
 obtain ⟨⟨z0, z1, z2, z3⟩, f0, f1, f2, f3⟩ := blk4 HP5.out
 go_wp2_with fail
 refine (RD.out w5 (HR.out.keep (Same.of_below HB5.out))).mono ?_
 rintro r w6 ⟨B, d, rfl, hx6, hb6⟩
 have HB6 := Lib.hid (HB5.out.trans (hb6.mono HB5.out.size))
 have HP6 := Lib.hid ((hb6.block P (blk_lt HP5.out)).trans HP5.out)
 have HT6 := Lib.hid ((hb6.block T (blk_lt HT5.out)).trans HT5.out)
 have HX6 := Lib.hid hx6
 clear hx6 hb6
 clear z0 z1 z2 z3 f0 f1 f2 f3
 (try clear x0 x1 x2 x3)
 obtain ⟨⟨z0, z1, z2, z3⟩, f0, f1, f2, f3⟩ := blk4 HP6.out
 obtain ⟨⟨x0, x1, x2, x3⟩, _⟩ := blk4' HT6.out
 go_wp2_with fail
 obtain ⟨w7, hw7⟩ : ∃ w', w6.alloc (.cells #[.int .i64 e.op, .int .i64 e.n, .string e.name, .slice B e.kids.length d] 41 (0, 0)) = w' := ⟨_, rfl⟩
 have hb7 : Below w6.heap.size w6 w7 := hw7 ▸ (Below.refl _ _).alloc (Nat.le_refl _) _
 have hq7 : ExBk w7 w6.heap.size e B d := hw7 ▸ heap_alloc_new _ _
 obtain ⟨Q, hQ⟩ : ∃ Q, w6.heap.size = Q := ⟨_, rfl⟩
 try rw [hw7, hQ]
 rw [hQ] at hq7
 have HPQ : Hid (P < Q) := Lib.hid (by rw [← hQ]; exact blk_lt HP6.out)
 have HB7 := Lib.hid (HB6.out.trans (hb7.mono HB6.out.size))
 have HP7 := Lib.hid ((hb7.block P (blk_lt HP6.out)).trans HP6.out)
 have HT7 := Lib.hid ((hb7.block T (blk_lt HT6.out)).trans HT6.out)
 have HX7 := Lib.hid (HX6.out.below hb7)
 have HQ7 := Lib.hid hq7
 clear hb7 hq7 hw7 hQ
 clear z0 z1 z2 z3 f0 f1 f2 f3
 (try clear x0 x1 x2 x3)
 obtain ⟨⟨z0, z1, z2, z3⟩, f0, f1, f2, f3⟩ := blk4 HP7.out
 obtain ⟨⟨x0, x1, x2, x3⟩, _⟩ := blk4' HT7.out
 go_wp2_with fail
 refine (xtoken_any l A c k w7 (HR.out.keep (Same.of_below HB7.out)) hlc).mono ?_
 rw [HT2K.out]
 rintro r w8 ⟨rfl, hb8⟩
 have HB8 := Lib.hid (HB7.out.trans (hb8.mono HB7.out.size))
 have HP8 := Lib.hid ((hb8.block P (blk_lt HP7.out)).trans HP7.out)
 have HT8 := Lib.hid ((hb8.block T (blk_lt HT7.out)).trans HT7.out)
 have HX8 := Lib.hid (HX7.out.below hb8)
 have HQ8 := Lib.hid (HQ7.out.step hb8)
 clear hb8
 go_wp2_with fail
 refine (xis_any t2 ⟨#[41]⟩ w8).mono ?_
 rw [K41.out]
 rintro r w9 ⟨rfl, hb9⟩
 have HB9 := Lib.hid (HB8.out.trans (hb9.mono HB8.out.size))
 have HP9 := Lib.hid ((hb9.block P (blk_lt HP8.out)).trans HP8.out)
 have HT9 := Lib.hid ((hb9.block T (blk_lt HT8.out)).trans HT8.out)
 have HX9 := Lib.hid (HX8.out.below hb9)
 have HQ9 := Lib.hid (HQ8.out.step hb9)
 clear hb9
 clear z0 z1 z2 z3 f0 f1 f2 f3
 (try clear x0 x1 x2 x3)
 obtain ⟨⟨z0, z1, z2, z3⟩, f0, f1, f2, f3⟩ := blk4 HP9.out
 obtain ⟨⟨x0, x1, x2, x3⟩, _⟩ := blk4' HT9.out
 obtain ⟨⟨y0, y1, y2, y3⟩, _⟩ := blk4' HQ9.out
 have hpq := HPQ.out
 go_wp2
 refine bodyPost_ret (v := .tuple #[.agg #[.int .i64 0, .int .i64 0, .string ⟨#[]⟩, .slice none 0 0], .int .i64 2, .int .i64 k]) (by simp [results, Tryz.results132, go_sem, *]) rfl ?_
 refine ⟨none, 0, rfl, ExF.leaf rfl, ?_⟩
 exact below_set4' HB9.out (by rw [HPW.out]; exact Nat.le_refl _) _ _ _ _
set_option maxHeartbeats 8000000 in
set_option maxRecDepth 100000 in
theorem xun_par_ok (l : List Tok) (A : Option Addr) (c : Nat) (first at_ : Int) (t : Tok) (w : World) (hr : tokK.Row [] w A l) (hlc : l.length ≤ c) (ht : tokAt l at_ = t) (hf0 : 0 ≤ first) (hf1 : first ≤ 1152921504606846976) (h1 : first ≤ at_) (h3 : at_ ≤ first + 64) (k45 : (t.kind == 4 && seq t.text ⟨#[45]⟩) = false) (k33 : (t.kind == 4 && seq t.text ⟨#[33]⟩) = false) (k40 : (t.kind == 4 && seq t.text ⟨#[40]⟩) = true) (hk : t.kind = 4) (h64 : at_ - first < 64) (e : Ex) (f k : Int) (hk1 : first ≤ k) (hk2 : k ≤ first + 64) (rd : ∀ W, tokK.Row [] W A l → Calls Tryz.prog 122 #[.slice A l.length c, .int .i64 first, .int .i64 (at_ + 1), .int .i64 1] W (TakePost W.heap.size (e, f, k) W)) (hf : f = 0) (t2 : Tok) (ht2 : tokAt l k = t2) (k41 : (t2.kind == 4 && seq t2.text ⟨#[41]⟩) = true) (hk64 : k - first < 64) :
  Calls Tryz.prog 132 #[.slice A l.length c, .int .i64 first, .int .i64 at_] w (TakePost w.heap.size (e, 0, k + 1) w) := by
 have hu : True := And.elim (fun _ _ => trivial) (And.intro (And.intro (And.intro hf0 hf1) (And.intro h1 h3)) (And.intro hk1 hk2))
 clear hu
 have n2 : (t.kind == 2) = false := beq_eq_false_iff_ne.2 (by omega)
 have m2 : (t.kind != 2) = true := bne_iff_ne.2 (by omega)
 have n1 : (t.kind == 1) = false := beq_eq_false_iff_ne.2 (by omega)
 have m1 : (t.kind != 1) = true := bne_iff_ne.2 (by omega)
 have g1 : at_ - first < 64 := h64
 have RD := Lib.hid rd
 clear hk rd
 subst hf
 have HT2K := Lib.hid ht2
 have K41 := Lib.hid k41
 clear ht2 k41
 have g2 : k - first < 64 := hk64
 have HR := Lib.hid hr
 have HTK := Lib.hid ht
 have K45 : Hid ((t.kind == 4 && seq t.text ⟨#[45]⟩) = false) := Lib.hid k45
 have K33 : Hid ((t.kind == 4 && seq t.text ⟨#[33]⟩) = false) := Lib.hid k33
 have K40 : Hid ((t.kind == 4 && seq t.text ⟨#[40]⟩) = true) := Lib.hid k40
 clear hr ht k45 k33 k40
 go_enter Tryz.func132, Tryz.ntmps132
 go_wp2_with fail
 obtain ⟨w0, hw0⟩ : ∃ w', w.alloc (.cells #[.int .i64 0, .int .i64 0, .string ⟨#[]⟩, .slice none 0 0] 41 (0, 0)) = w' := ⟨_, rfl⟩
 have hb0 : Below w.heap.size w w0 := hw0 ▸ (Below.refl _ _).alloc (Nat.le_refl _) _
 have hz0 : w0.heap[w.heap.size]? = some (.cells #[.int .i64 0, .int .i64 0, .string ⟨#[]⟩, .slice none 0 0] 41 (0, 0)) := hw0 ▸ heap_alloc_new _ _
 obtain ⟨P, hP⟩ : ∃ P, w.heap.size = P := ⟨_, rfl⟩
 rw [hw0, hP]
 rw [hP] at hz0
 have HPW := Lib.hid hP
 have HB0 := Lib.hid hb0
 have HP0 := Lib.hid hz0
 clear hb0 hz0 hw0 hP
 refine (xtoken_any l A c at_ w0 (HR.out.keep (Same.of_below HB0.out)) hlc).mono ?_
 rw [HTK.out]
 rintro r w1 ⟨rfl, hb1⟩
 have HB1 := Lib.hid (HB0.out.trans (hb1.mono HB0.out.size))
 have HP1 := Lib.hid ((hb1.block P (blk_lt HP0.out)).trans HP0.out)
 clear hb1
 go_wp2_with fail
 obtain ⟨w2, hw2⟩ : ∃ w', w1.alloc (.cells #[.int .i64 t.kind, .string t.text, .int .i64 t.n, .int .i64 t.at_] 60 (0, 0)) = w' := ⟨_, rfl⟩
 have hb2 : Below w1.heap.size w1 w2 := hw2 ▸ (Below.refl _ _).alloc (Nat.le_refl _) _
 have hz2 : w2.heap[w1.heap.size]? = some (.cells #[.int .i64 t.kind, .string t.text, .int .i64 t.n, .int .i64 t.at_] 60 (0, 0)) := hw2 ▸ heap_alloc_new _ _
 obtain ⟨T, hT⟩ : ∃ T, w1.heap.size = T := ⟨_, rfl⟩
 rw [hw2, hT]
 rw [hT] at hz2
 have HPT : Hid (P < T) := Lib.hid (by rw [← hT]; exact blk_lt HP1.out)
 have HB2 := Lib.hid (HB1.out.trans (hb2.mono HB1.out.size))
 have HP2 := Lib.hid ((hb2.block P (blk_lt HP1.out)).trans HP1.out)
 have HT2 := Lib.hid hz2
 clear hb2 hz2 hw2 hT
 refine (xis_any t ⟨#[45]⟩ w2).mono ?_
 rw [K45.out]
 rintro r w3 ⟨rfl, hb3⟩
 have HB3 := Lib.hid (HB2.out.trans (hb3.mono HB2.out.size))
 have HP3 := Lib.hid ((hb3.block P (blk_lt HP2.out)).trans HP2.out)
 have HT3 := Lib.hid ((hb3.block T (blk_lt HT2.out)).trans HT2.out)
 clear hb3
 (try clear x0 x1 x2 x3)
 obtain ⟨⟨x0, x1, x2, x3⟩, _⟩ := blk4' HT3.out
 go_wp2_with fail
 refine (xis_any t ⟨#[33]⟩ w3).mono ?_
 rw [K33.out]
 rintro r w4 ⟨rfl, hb4⟩
 have HB4 := Lib.hid (HB3.out.trans (hb4.mono HB3.out.size))
 have HP4 := Lib.hid ((hb4.block P (blk_lt HP3.out)).trans HP3.out)
 have HT4 := Lib.hid ((hb4.block T (blk_lt HT3.out)).trans HT3.out)
 clear hb4
 (try clear x0 x1 x2 x3)
 obtain ⟨⟨x0, x1, x2, x3⟩, _⟩ := blk4' HT4.out
 go_wp2_with fail
 refine (xis_any t ⟨#[40]⟩ w4).mono ?_
 rw [K40.out]
 rintro r w5 ⟨rfl, hb5⟩
 have HB5 := Lib.hid (HB4.out.trans (hb5.mono HB4.out.size))
 have HP5 := Lib.hid ((hb5.block P (blk_lt HP4.out)).trans HP4.out)
 have HT5 := Lib.hid ((hb5.block T (blk_lt HT4.out)).trans HT4.out)
 clear hb5
 (try clear x0 x1 x2 x3)
 obtain ⟨⟨x0, x1, x2, x3⟩, _⟩ := blk4' HT5.out
 have hpt := HPT.out
 obtain ⟨⟨z0, z1, z2, z3⟩, f0, f1, f2, f3⟩ := blk4 HP5.out
 go_wp2_with fail
 refine (RD.out w5 (HR.out.keep (Same.of_below HB5.out))).mono ?_
 rintro r w6 ⟨B, d, rfl, hx6, hb6⟩
 have HB6 := Lib.hid (HB5.out.trans (hb6.mono HB5.out.size))
 have HP6 := Lib.hid ((hb6.block P (blk_lt HP5.out)).trans HP5.out)
 have HT6 := Lib.hid ((hb6.block T (blk_lt HT5.out)).trans HT5.out)
 have HX6 := Lib.hid hx6
 clear hx6 hb6
 clear z0 z1 z2 z3 f0 f1 f2 f3
 (try clear x0 x1 x2 x3)
 obtain ⟨⟨z0, z1, z2, z3⟩, f0, f1, f2, f3⟩ := blk4 HP6.out
 obtain ⟨⟨x0, x1, x2, x3⟩, _⟩ := blk4' HT6.out
 go_wp2_with fail
 obtain ⟨w7, hw7⟩ : ∃ w', w6.alloc (.cells #[.int .i64 e.op, .int .i64 e.n, .string e.name, .slice B e.kids.length d] 41 (0, 0)) = w' := ⟨_, rfl⟩
 have hb7 : Below w6.heap.size w6 w7 := hw7 ▸ (Below.refl _ _).alloc (Nat.le_refl _) _
 have hq7 : ExBk w7 w6.heap.size e B d := hw7 ▸ heap_alloc_new _ _
 obtain ⟨Q, hQ⟩ : ∃ Q, w6.heap.size = Q := ⟨_, rfl⟩
 try rw [hw7, hQ]
 rw [hQ] at hq7
 have HPQ : Hid (P < Q) := Lib.hid (by rw [← hQ]; exact blk_lt HP6.out)
 have HB7 := Lib.hid (HB6.out.trans (hb7.mono HB6.out.size))
 have HP7 := Lib.hid ((hb7.block P (blk_lt HP6.out)).trans HP6.out)
 have HT7 := Lib.hid ((hb7.block T (blk_lt HT6.out)).trans HT6.out)
 have HX7 := Lib.hid (HX6.out.below hb7)
 have HQ7 := Lib.hid hq7
 clear hb7 hq7 hw7 hQ
 clear z0 z1 z2 z3 f0 f1 f2 f3
 (try clear x0 x1 x2 x3)
 obtain ⟨⟨z0, z1, z2, z3⟩, f0, f1, f2, f3⟩ := blk4 HP7.out
 obtain ⟨⟨x0, x1, x2, x3⟩, _⟩ := blk4' HT7.out
 go_wp2_with fail
 refine (xtoken_any l A c k w7 (HR.out.keep (Same.of_below HB7.out)) hlc).mono ?_
 rw [HT2K.out]
 rintro r w8 ⟨rfl, hb8⟩
 have HB8 := Lib.hid (HB7.out.trans (hb8.mono HB7.out.size))
 have HP8 := Lib.hid ((hb8.block P (blk_lt HP7.out)).trans HP7.out)
 have HT8 := Lib.hid ((hb8.block T (blk_lt HT7.out)).trans HT7.out)
 have HX8 := Lib.hid (HX7.out.below hb8)
 have HQ8 := Lib.hid (HQ7.out.step hb8)
 clear hb8
 go_wp2_with fail
 refine (xis_any t2 ⟨#[41]⟩ w8).mono ?_
 rw [K41.out]
 rintro r w9 ⟨rfl, hb9⟩
 have HB9 := Lib.hid (HB8.out.trans (hb9.mono HB8.out.size))
 have HP9 := Lib.hid ((hb9.block P (blk_lt HP8.out)).trans HP8.out)
 have HT9 := Lib.hid ((hb9.block T (blk_lt HT8.out)).trans HT8.out)
 have HX9 := Lib.hid (HX8.out.below hb9)
 have HQ9 := Lib.hid (HQ8.out.step hb9)
 clear hb9
 clear z0 z1 z2 z3 f0 f1 f2 f3
 (try clear x0 x1 x2 x3)
 obtain ⟨⟨z0, z1, z2, z3⟩, f0, f1, f2, f3⟩ := blk4 HP9.out
 obtain ⟨⟨x0, x1, x2, x3⟩, _⟩ := blk4' HT9.out
 obtain ⟨⟨y0, y1, y2, y3⟩, _⟩ := blk4' HQ9.out
 have hpq := HPQ.out
 go_wp2
 refine bodyPost_ret (v := .tuple #[.agg #[.int .i64 e.op, .int .i64 e.n, .string e.name, .slice B e.kids.length d], .int .i64 0, .int .i64 (k + 1)]) (by simp [results, Tryz.results132, go_sem, *]) rfl ?_
 refine ⟨B, d, rfl, ((HX9.out.keep (same_set4 w9 P _ _ _ _) (fun q hq => by simp at hq; subst hq; exact blk_lt HP5.out)).more (fun q hq => .inl (by have := HB5.out.size; show q < w5.heap.size; omega))), ?_⟩
 exact below_set4' HB9.out (by rw [HPW.out]; exact Nat.le_refl _) _ _ _ _
set_option maxHeartbeats 8000000 in
set_option maxRecDepth 100000 in
theorem xun_op2_bad (l : List Tok) (A : Option Addr) (c : Nat) (first at_ : Int) (t : Tok) (w : World) (hr : tokK.Row [] w A l) (hlc : l.length ≤ c) (ht : tokAt l at_ = t) (hf0 : 0 ≤ first) (hf1 : first ≤ 1152921504606846976) (h1 : first ≤ at_) (h3 : at_ ≤ first + 64) (k45 : (t.kind == 4 && seq t.text ⟨#[45]⟩) = true) (k33 : (t.kind == 4 && seq t.text ⟨#[33]⟩) = false) (k40 : (t.kind == 4 && seq t.text ⟨#[40]⟩) = false) (hk : t.kind = 4) (h64 : at_ - first < 64) (e : Ex) (f k : Int) (hk1 : first ≤ k) (hk2 : k ≤ first + 64) (rd : ∀ W, tokK.Row [] W A l → Calls Tryz.prog 132 #[.slice A l.length c, .int .i64 first, .int .i64 (at_ + 1)] W (TakePost W.heap.size (e, f, k) W)) (hf : f ≠ 0) :
  Calls Tryz.prog 132 #[.slice A l.length c, .int .i64 first, .int .i64 at_] w (TakePost w.heap.size (zEx, f, k) w) := by
 have hu : True := And.elim (fun _ _ => trivial) (And.intro (And.intro (And.intro hf0 hf1) (And.intro h1 h3)) (And.intro hk1 hk2))
 clear hu
 have n2 : (t.kind == 2) = false := beq_eq_false_iff_ne.2 (by omega)
 have m2 : (t.kind != 2) = true := bne_iff_ne.2 (by omega)
 have n1 : (t.kind == 1) = false := beq_eq_false_iff_ne.2 (by omega)
 have m1 : (t.kind != 1) = true := bne_iff_ne.2 (by omega)
 have g1 : at_ - first < 64 := h64
 have RD := Lib.hid rd
 clear hk rd
 have nf : (f != 0) = true := bnet hf
 clear hf
 have HR := Lib.hid hr
 have HTK := Lib.hid ht
 have K45 : Hid ((t.kind == 4 && seq t.text ⟨#[45]⟩) = true) := Lib.hid k45
 have K33 : Hid ((t.kind == 4 && seq t.text ⟨#[33]⟩) = false) := Lib.hid k33
 have K40 : Hid ((t.kind == 4 && seq t.text ⟨#[40]⟩) = false) := Lib.hid k40
 clear hr ht k45 k33 k40
 go_enter Tryz.func132, Tryz.ntmps132
 go_wp2_with fail
 obtain ⟨w0, hw0⟩ : ∃ w', w.alloc (.cells #[.int .i64 0, .int .i64 0, .string ⟨#[]⟩, .slice none 0 0] 41 (0, 0)) = w' := ⟨_, rfl⟩
 have hb0 : Below w.heap.size w w0 := hw0 ▸ (Below.refl _ _).alloc (Nat.le_refl _) _
 have hz0 : w0.heap[w.heap.size]? = some (.cells #[.int .i64 0, .int .i64 0, .string ⟨#[]⟩, .slice none 0 0] 41 (0, 0)) := hw0 ▸ heap_alloc_new _ _
 obtain ⟨P, hP⟩ : ∃ P, w.heap.size = P := ⟨_, rfl⟩
 rw [hw0, hP]
 rw [hP] at hz0
 have HPW := Lib.hid hP
 have HB0 := Lib.hid hb0
 have HP0 := Lib.hid hz0
 clear hb0 hz0 hw0 hP
 refine (xtoken_any l A c at_ w0 (HR.out.keep (Same.of_below HB0.out)) hlc).mono ?_
 rw [HTK.out]
 rintro r w1 ⟨rfl, hb1⟩
 have HB1 := Lib.hid (HB0.out.trans (hb1.mono HB0.out.size))
 have HP1 := Lib.hid ((hb1.block P (blk_lt HP0.out)).trans HP0.out)
 clear hb1
 go_wp2_with fail
 obtain ⟨w2, hw2⟩ : ∃ w', w1.alloc (.cells #[.int .i64 t.kind, .string t.text, .int .i64 t.n, .int .i64 t.at_] 60 (0, 0)) = w' := ⟨_, rfl⟩
 have hb2 : Below w1.heap.size w1 w2 := hw2 ▸ (Below.refl _ _).alloc (Nat.le_refl _) _
 have hz2 : w2.heap[w1.heap.size]? = some (.cells #[.int .i64 t.kind, .string t.text, .int .i64 t.n, .int .i64 t.at_] 60 (0, 0)) := hw2 ▸ heap_alloc_new _ _
 obtain ⟨T, hT⟩ : ∃ T, w1.heap.size = T := ⟨_, rfl⟩
 rw [hw2, hT]
 rw [hT] at hz2
 have HPT : Hid (P < T) := Lib.hid (by rw [← hT]; exact blk_lt HP1.out)
 have HB2 := Lib.hid (HB1.out.trans (hb2.mono HB1.out.size))
 have HP2 := Lib.hid ((hb2.block P (blk_lt HP1.out)).trans HP1.out)
 have HT2 := Lib.hid hz2
 clear hb2 hz2 hw2 hT
 refine (xis_any t ⟨#[45]⟩ w2).mono ?_
 rw [K45.out]
 rintro r w3 ⟨rfl, hb3⟩
 have HB3 := Lib.hid (HB2.out.trans (hb3.mono HB2.out.size))
 have HP3 := Lib.hid ((hb3.block P (blk_lt HP2.out)).trans HP2.out)
 have HT3 := Lib.hid ((hb3.block T (blk_lt HT2.out)).trans HT2.out)
 clear hb3
 (try clear x0 x1 x2 x3)
 obtain ⟨⟨x0, x1, x2, x3⟩, _⟩ := blk4' HT3.out
 go_wp2_with fail
 refine (xis_any t ⟨#[33]⟩ w3).mono ?_
 rw [K33.out]
 rintro r w4 ⟨rfl, hb4⟩
 have HB4 := Lib.hid (HB3.out.trans (hb4.mono HB3.out.size))
 have HP4 := Lib.hid ((hb4.block P (blk_lt HP3.out)).trans HP3.out)
 have HT4 := Lib.hid ((hb4.block T (blk_lt HT3.out)).trans HT3.out)
 clear hb4
 (try clear x0 x1 x2 x3)
 obtain ⟨⟨x0, x1, x2, x3⟩, _⟩ := blk4' HT4.out
 go_wp2_with fail
 refine (xis_any t ⟨#[40]⟩ w4).mono ?_
 rw [K40.out]
 rintro r w5 ⟨rfl, hb5⟩
 have HB5 := Lib.hid (HB4.out.trans (hb5.mono HB4.out.size))
 have HP5 := Lib.hid ((hb5.block P (blk_lt HP4.out)).trans HP4.out)
 have HT5 := Lib.hid ((hb5.block T (blk_lt HT4.out)).trans HT4.out)
 clear hb5
 (try clear x0 x1 x2 x3)
 obtain ⟨⟨x0, x1, x2, x3⟩, _⟩ := blk4' HT5.out
 have hpt := HPT.out
 obtain ⟨⟨z0, z1, z2, z3⟩, f0, f1, f2, f3⟩ := blk4 HP5.out
 go_wp2_with fail
 refine (RD.out w5 (HR.out.keep (Same.of_below HB5.out))).mono ?_
 rintro r w6 ⟨B, d, rfl, hx6, hb6⟩
 have HB6 := Lib.hid (HB5.out.trans (hb6.mono HB5.out.size))
 have HP6 := Lib.hid ((hb6.block P (blk_lt HP5.out)).trans HP5.out)
 have HT6 := Lib.hid ((hb6.block T (blk_lt HT5.out)).trans HT5.out)
 clear hx6 hb6
 clear z0 z1 z2 z3 f0 f1 f2 f3
 (try clear x0 x1 x2 x3)
 obtain ⟨⟨z0, z1, z2, z3⟩, f0, f1, f2, f3⟩ := blk4 HP6.out
 obtain ⟨⟨x0, x1, x2, x3⟩, _⟩ := blk4' HT6.out
 have hl6 := blk_lt HP6.out
 go_wp2
 refine bodyPost_ret (v := .tuple #[.agg #[.int .i64 0, .int .i64 0, .string ⟨#[]⟩, .slice none 0 0], .int .i64 f, .int .i64 k]) (by simp [results, Tryz.results132, go_sem, *]) rfl ?_
 refine ⟨none, 0, rfl, ExF.leaf rfl, ?_⟩
 first
 | exact (below_set4' HB6.out (by rw [HPW.out]; exact Nat.le_refl _) _ _ _ _).alloc (by simpa using HB6.out.size) _
 | exact below_set4' (HB6.out.alloc HB6.out.size _) (by rw [HPW.out]; exact Nat.le_refl _) _ _ _ _
set_option maxHeartbeats 8000000 in
set_option maxRecDepth 100000 in
theorem xun_op2_ok (l : List Tok) (A : Option Addr) (c : Nat) (first at_ : Int) (t : Tok) (w : World) (hr : tokK.Row [] w A l) (hlc : l.length ≤ c) (ht : tokAt l at_ = t) (hf0 : 0 ≤ first) (hf1 : first ≤ 1152921504606846976) (h1 : first ≤ at_) (h3 : at_ ≤ first + 64) (k45 : (t.kind == 4 && seq t.text ⟨#[45]⟩) = true) (k33 : (t.kind == 4 && seq t.text ⟨#[33]⟩) = false) (k40 : (t.kind == 4 && seq t.text ⟨#[40]⟩) = false) (hk : t.kind = 4) (h64 : at_ - first < 64) (e : Ex) (f k : Int) (hk1 : first ≤ k) (hk2 : k ≤ first + 64) (rd : ∀ W, tokK.Row [] W A l → Calls Tryz.prog 132 #[.slice A l.length c, .int .i64 first, .int .i64 (at_ + 1)] W (TakePost W.heap.size (e, f, k) W)) (hf : f = 0) :
  Calls Tryz.prog 132 #[.slice A l.length c, .int .i64 first, .int .i64 at_] w (TakePost w.heap.size (node1 2 e, 0, k) w) := by
 have hu : True := And.elim (fun _ _ => trivial) (And.intro (And.intro (And.intro hf0 hf1) (And.intro h1 h3)) (And.intro hk1 hk2))
 clear hu
 have n2 : (t.kind == 2) = false := beq_eq_false_iff_ne.2 (by omega)
 have m2 : (t.kind != 2) = true := bne_iff_ne.2 (by omega)
 have n1 : (t.kind == 1) = false := beq_eq_false_iff_ne.2 (by omega)
 have m1 : (t.kind != 1) = true := bne_iff_ne.2 (by omega)
 have g1 : at_ - first < 64 := h64
 have RD := Lib.hid rd
 clear hk rd
 subst hf
 have HR := Lib.hid hr
 have HTK := Lib.hid ht
 have K45 : Hid ((t.kind == 4 && seq t.text ⟨#[45]⟩) = true) := Lib.hid k45
 have K33 : Hid ((t.kind == 4 && seq t.text ⟨#[33]⟩) = false) := Lib.hid k33
 have K40 : Hid ((t.kind == 4 && seq t.text ⟨#[40]⟩) = false) := Lib.hid k40
 clear hr ht k45 k33 k40
 go_enter Tryz.func132, Tryz.ntmps132
 go_wp2_with fail
 obtain ⟨w0, hw0⟩ : ∃ w', w.alloc (.cells #[.int .i64 0, .int .i64 0, .string ⟨#[]⟩, .slice none 0 0] 41 (0, 0)) = w' := ⟨_, rfl⟩
 have hb0 : Below w.heap.size w w0 := hw0 ▸ (Below.refl _ _).alloc (Nat.le_refl _) _
 have hz0 : w0.heap[w.heap.size]? = some (.cells #[.int .i64 0, .int .i64 0, .string ⟨#[]⟩, .slice none 0 0] 41 (0, 0)) := hw0 ▸ heap_alloc_new _ _
 obtain ⟨P, hP⟩ : ∃ P, w.heap.size = P := ⟨_, rfl⟩
 rw [hw0, hP]
 rw [hP] at hz0
 have HPW := Lib.hid hP
 have HB0 := Lib.hid hb0
 have HP0 := Lib.hid hz0
 clear hb0 hz0 hw0 hP
 refine (xtoken_any l A c at_ w0 (HR.out.keep (Same.of_below HB0.out)) hlc).mono ?_
 rw [HTK.out]
 rintro r w1 ⟨rfl, hb1⟩
 have HB1 := Lib.hid (HB0.out.trans (hb1.mono HB0.out.size))
 have HP1 := Lib.hid ((hb1.block P (blk_lt HP0.out)).trans HP0.out)
 clear hb1
 go_wp2_with fail
 obtain ⟨w2, hw2⟩ : ∃ w', w1.alloc (.cells #[.int .i64 t.kind, .string t.text, .int .i64 t.n, .int .i64 t.at_] 60 (0, 0)) = w' := ⟨_, rfl⟩
 have hb2 : Below w1.heap.size w1 w2 := hw2 ▸ (Below.refl _ _).alloc (Nat.le_refl _) _
 have hz2 : w2.heap[w1.heap.size]? = some (.cells #[.int .i64 t.kind, .string t.text, .int .i64 t.n, .int .i64 t.at_] 60 (0, 0)) := hw2 ▸ heap_alloc_new _ _
 obtain ⟨T, hT⟩ : ∃ T, w1.heap.size = T := ⟨_, rfl⟩
 rw [hw2, hT]
 rw [hT] at hz2
 have HPT : Hid (P < T) := Lib.hid (by rw [← hT]; exact blk_lt HP1.out)
 have HB2 := Lib.hid (HB1.out.trans (hb2.mono HB1.out.size))
 have HP2 := Lib.hid ((hb2.block P (blk_lt HP1.out)).trans HP1.out)
 have HT2 := Lib.hid hz2
 clear hb2 hz2 hw2 hT
 refine (xis_any t ⟨#[45]⟩ w2).mono ?_
 rw [K45.out]
 rintro r w3 ⟨rfl, hb3⟩
 have HB3 := Lib.hid (HB2.out.trans (hb3.mono HB2.out.size))
 have HP3 := Lib.hid ((hb3.block P (blk_lt HP2.out)).trans HP2.out)
 have HT3 := Lib.hid ((hb3.block T (blk_lt HT2.out)).trans HT2.out)
 clear hb3
 (try clear x0 x1 x2 x3)
 obtain ⟨⟨x0, x1, x2, x3⟩, _⟩ := blk4' HT3.out
 go_wp2_with fail
 refine (xis_any t ⟨#[33]⟩ w3).mono ?_
 rw [K33.out]
 rintro r w4 ⟨rfl, hb4⟩
 have HB4 := Lib.hid (HB3.out.trans (hb4.mono HB3.out.size))
 have HP4 := Lib.hid ((hb4.block P (blk_lt HP3.out)).trans HP3.out)
 have HT4 := Lib.hid ((hb4.block T (blk_lt HT3.out)).trans HT3.out)
 clear hb4
 (try clear x0 x1 x2 x3)
 obtain ⟨⟨x0, x1, x2, x3⟩, _⟩ := blk4' HT4.out
 go_wp2_with fail
 refine (xis_any t ⟨#[40]⟩ w4).mono ?_
 rw [K40.out]
 rintro r w5 ⟨rfl, hb5⟩
 have HB5 := Lib.hid (HB4.out.trans (hb5.mono HB4.out.size))
 have HP5 := Lib.hid ((hb5.block P (blk_lt HP4.out)).trans HP4.out)
 have HT5 := Lib.hid ((hb5.block T (blk_lt HT4.out)).trans HT4.out)
 clear hb5
 (try clear x0 x1 x2 x3)
 obtain ⟨⟨x0, x1, x2, x3⟩, _⟩ := blk4' HT5.out
 have hpt := HPT.out
 obtain ⟨⟨z0, z1, z2, z3⟩, f0, f1, f2, f3⟩ := blk4 HP5.out
 go_wp2_with fail
 refine (RD.out w5 (HR.out.keep (Same.of_below HB5.out))).mono ?_
 rintro r w6 ⟨B, d, rfl, hx6, hb6⟩
 have HB6 := Lib.hid (HB5.out.trans (hb6.mono HB5.out.size))
 have HP6 := Lib.hid ((hb6.block P (blk_lt HP5.out)).trans HP5.out)
 have HT6 := Lib.hid ((hb6.block T (blk_lt HT5.out)).trans HT5.out)
 have HX6 := Lib.hid hx6
 clear hx6 hb6
 clear z0 z1 z2 z3 f0 f1 f2 f3
 (try clear x0 x1 x2 x3)
 obtain ⟨⟨z0, z1, z2, z3⟩, f0, f1, f2, f3⟩ := blk4 HP6.out
 obtain ⟨⟨x0, x1, x2, x3⟩, _⟩ := blk4' HT6.out
 go_upto_region 24 with fail
 obtain ⟨w7, hw7⟩ : ∃ w', w6.alloc (.cells #[.int .i64 e.op, .int .i64 e.n, .string e.name, .slice B e.kids.length d] 41 (0, 0)) = w' := ⟨_, rfl⟩
 have hb7 : Below w6.heap.size w6 w7 := hw7 ▸ (Below.refl _ _).alloc (Nat.le_refl _) _
 have hq7 : ExBk w7 w6.heap.size e B d := hw7 ▸ heap_alloc_new _ _
 obtain ⟨Q, hQ⟩ : ∃ Q, w6.heap.size = Q := ⟨_, rfl⟩
 try rw [hw7, hQ]
 rw [hQ] at hq7
 have HPQ : Hid (P < Q) := Lib.hid (by rw [← hQ]; exact blk_lt HP6.out)
 have HB7 := Lib.hid (HB6.out.trans (hb7.mono HB6.out.size))
 have HP7 := Lib.hid ((hb7.block P (blk_lt HP6.out)).trans HP6.out)
 have HT7 := Lib.hid ((hb7.block T (blk_lt HT6.out)).trans HT6.out)
 have HX7 := Lib.hid (HX6.out.below hb7)
 have HQ7 := Lib.hid hq7
 clear hb7 hq7 hw7 hQ
 clear z0 z1 z2 z3 f0 f1 f2 f3
 (try clear x0 x1 x2 x3)
 obtain ⟨⟨z0, z1, z2, z3⟩, f0, f1, f2, f3⟩ := blk4 HP7.out
 obtain ⟨⟨x0, x1, x2, x3⟩, _⟩ := blk4' HT7.out
 obtain ⟨⟨y0, y1, y2, y3⟩, _⟩ := blk4' HQ7.out
 have hpq := HPQ.out
 have hl7 := blk_lt HP7.out
 go_wp2
 refine bodyPost_ret (v := .tuple #[.agg #[.int .i64 2, .int .i64 0, .string ⟨#[]⟩, .slice (some ⟨w7.heap.size, 0, none⟩) 1 1], .int .i64 0, .int .i64 k]) (by simp [results, Tryz.results132, go_sem, *]) rfl ?_
 have hS := same_set4 w7 P (.int .i64 2) (.int .i64 0) (.string ⟨#[]⟩) (.slice (some ⟨w7.heap.size, 0, none⟩) 1 1)
 have hXS := (HX7.out.keep hS (fun q hq => by simp at hq; subst hq; exact blk_lt HP5.out)).more (Q := fun q => q < w.heap.size) (fun q hq => .inl (by have := HB5.out.size; show q < w5.heap.size; omega))
 refine ⟨some ⟨w7.heap.size, 0, none⟩, 1, rfl, ?_, ?_⟩
 ·refine ExF.one (k := w7.heap.size) (t := 41) (by have := HB7.out.size; omega) (hXS.below ((Below.refl _ _).alloc (Nat.le_refl _) _)) ?_ 2
  have h := heap_alloc_new ((((w7.setCell ⟨P, 0, none⟩ (.int .i64 2)).setCell ⟨P, 1, none⟩ (.int .i64 0)).setCell ⟨P, 2, none⟩ (.string ⟨#[]⟩)).setCell ⟨P, 3, none⟩ (.slice (some ⟨w7.heap.size, 0, none⟩) 1 1)) (.cells #[.int .i64 e.op, .int .i64 e.n, .string e.name, .slice B e.kids.length d] 41 (0, 0))
  simpa using h
 ·exact (below_set4' HB7.out (by rw [HPW.out]; exact Nat.le_refl _) _ _ _ _).alloc (by simpa using HB7.out.size) _
set_option maxHeartbeats 8000000 in
set_option maxRecDepth 100000 in
theorem xun_op3_bad (l : List Tok) (A : Option Addr) (c : Nat) (first at_ : Int) (t : Tok) (w : World) (hr : tokK.Row [] w A l) (hlc : l.length ≤ c) (ht : tokAt l at_ = t) (hf0 : 0 ≤ first) (hf1 : first ≤ 1152921504606846976) (h1 : first ≤ at_) (h3 : at_ ≤ first + 64) (k45 : (t.kind == 4 && seq t.text ⟨#[45]⟩) = false) (k33 : (t.kind == 4 && seq t.text ⟨#[33]⟩) = true) (k40 : (t.kind == 4 && seq t.text ⟨#[40]⟩) = false) (hk : t.kind = 4) (h64 : at_ - first < 64) (e : Ex) (f k : Int) (hk1 : first ≤ k) (hk2 : k ≤ first + 64) (rd : ∀ W, tokK.Row [] W A l → Calls Tryz.prog 132 #[.slice A l.length c, .int .i64 first, .int .i64 (at_ + 1)] W (TakePost W.heap.size (e, f, k) W)) (hf : f ≠ 0) :
  Calls Tryz.prog 132 #[.slice A l.length c, .int .i64 first, .int .i64 at_] w (TakePost w.heap.size (zEx, f, k) w) := by
 have hu : True := And.elim (fun _ _ => trivial) (And.intro (And.intro (And.intro hf0 hf1) (And.intro h1 h3)) (And.intro hk1 hk2))
 clear hu
 have n2 : (t.kind == 2) = false := beq_eq_false_iff_ne.2 (by omega)
 have m2 : (t.kind != 2) = true := bne_iff_ne.2 (by omega)
 have n1 : (t.kind == 1) = false := beq_eq_false_iff_ne.2 (by omega)
 have m1 : (t.kind != 1) = true := bne_iff_ne.2 (by omega)
 have g1 : at_ - first < 64 := h64
 have RD := Lib.hid rd
 clear hk rd
 have nf : (f != 0) = true := bnet hf
 clear hf
 have HR := Lib.hid hr
 have HTK := Lib.hid ht
 have K45 : Hid ((t.kind == 4 && seq t.text ⟨#[45]⟩) = false) := Lib.hid k45
 have K33 : Hid ((t.kind == 4 && seq t.text ⟨#[33]⟩) = true) := Lib.hid k33
 have K40 : Hid ((t.kind == 4 && seq t.text ⟨#[40]⟩) = false) := Lib.hid k40
 clear hr ht k45 k33 k40
 go_enter Tryz.func132, Tryz.ntmps132
 go_wp2_with fail
 obtain ⟨w0, hw0⟩ : ∃ w', w.alloc (.cells #[.int .i64 0, .int .i64 0, .string ⟨#[]⟩, .slice none 0 0] 41 (0, 0)) = w' := ⟨_, rfl⟩
 have hb0 : Below w.heap.size w w0 := hw0 ▸ (Below.refl _ _).alloc (Nat.le_refl _) _
 have hz0 : w0.heap[w.heap.size]? = some (.cells #[.int .i64 0, .int .i64 0, .string ⟨#[]⟩, .slice none 0 0] 41 (0, 0)) := hw0 ▸ heap_alloc_new _ _
 obtain ⟨P, hP⟩ : ∃ P, w.heap.size = P := ⟨_, rfl⟩
 rw [hw0, hP]
 rw [hP] at hz0
 have HPW := Lib.hid hP
 have HB0 := Lib.hid hb0
 have HP0 := Lib.hid hz0
 clear hb0 hz0 hw0 hP
 refine (xtoken_any l A c at_ w0 (HR.out.keep (Same.of_below HB0.out)) hlc).mono ?_
 rw [HTK.out]
 rintro r w1 ⟨rfl, hb1⟩
 have HB1 := Lib.hid (HB0.out.trans (hb1.mono HB0.out.size))
 have HP1 := Lib.hid ((hb1.block P (blk_lt HP0.out)).trans HP0.out)
 clear hb1
 go_wp2_with fail
 obtain ⟨w2, hw2⟩ : ∃ w', w1.alloc (.cells #[.int .i64 t.kind, .string t.text, .int .i64 t.n, .int .i64 t.at_] 60 (0, 0)) = w' := ⟨_, rfl⟩
 have hb2 : Below w1.heap.size w1 w2 := hw2 ▸ (Below.refl _ _).alloc (Nat.le_refl _) _
 have hz2 : w2.heap[w1.heap.size]? = some (.cells #[.int .i64 t.kind, .string t.text, .int .i64 t.n, .int .i64 t.at_] 60 (0, 0)) := hw2 ▸ heap_alloc_new _ _
 obtain ⟨T, hT⟩ : ∃ T, w1.heap.size = T := ⟨_, rfl⟩
 rw [hw2, hT]
 rw [hT] at hz2
 have HPT : Hid (P < T) := Lib.hid (by rw [← hT]; exact blk_lt HP1.out)
 have HB2 := Lib.hid (HB1.out.trans (hb2.mono HB1.out.size))
 have HP2 := Lib.hid ((hb2.block P (blk_lt HP1.out)).trans HP1.out)
 have HT2 := Lib.hid hz2
 clear hb2 hz2 hw2 hT
 refine (xis_any t ⟨#[45]⟩ w2).mono ?_
 rw [K45.out]
 rintro r w3 ⟨rfl, hb3⟩
 have HB3 := Lib.hid (HB2.out.trans (hb3.mono HB2.out.size))
 have HP3 := Lib.hid ((hb3.block P (blk_lt HP2.out)).trans HP2.out)
 have HT3 := Lib.hid ((hb3.block T (blk_lt HT2.out)).trans HT2.out)
 clear hb3
 (try clear x0 x1 x2 x3)
 obtain ⟨⟨x0, x1, x2, x3⟩, _⟩ := blk4' HT3.out
 go_wp2_with fail
 refine (xis_any t ⟨#[33]⟩ w3).mono ?_
 rw [K33.out]
 rintro r w4 ⟨rfl, hb4⟩
 have HB4 := Lib.hid (HB3.out.trans (hb4.mono HB3.out.size))
 have HP4 := Lib.hid ((hb4.block P (blk_lt HP3.out)).trans HP3.out)
 have HT4 := Lib.hid ((hb4.block T (blk_lt HT3.out)).trans HT3.out)
 clear hb4
 (try clear x0 x1 x2 x3)
 obtain ⟨⟨x0, x1, x2, x3⟩, _⟩ := blk4' HT4.out
 go_wp2_with fail
 refine (xis_any t ⟨#[40]⟩ w4).mono ?_
 rw [K40.out]
 rintro r w5 ⟨rfl, hb5⟩
 have HB5 := Lib.hid (HB4.out.trans (hb5.mono HB4.out.size))
 have HP5 := Lib.hid ((hb5.block P (blk_lt HP4.out)).trans HP4.out)
 have HT5 := Lib.hid ((hb5.block T (blk_lt HT4.out)).trans HT4.out)
 clear hb5
 (try clear x0 x1 x2 x3)
 obtain ⟨⟨x0, x1, x2, x3⟩, _⟩ := blk4' HT5.out
 have hpt := HPT.out
 obtain ⟨⟨z0, z1, z2, z3⟩, f0, f1, f2, f3⟩ := blk4 HP5.out
 go_wp2_with fail
 refine (RD.out w5 (HR.out.keep (Same.of_below HB5.out))).mono ?_
 rintro r w6 ⟨B, d, rfl, hx6, hb6⟩
 have HB6 := Lib.hid (HB5.out.trans (hb6.mono HB5.out.size))
 have HP6 := Lib.hid ((hb6.block P (blk_lt HP5.out)).trans HP5.out)
 have HT6 := Lib.hid ((hb6.block T (blk_lt HT5.out)).trans HT5.out)
 clear hx6 hb6
 clear z0 z1 z2 z3 f0 f1 f2 f3
 (try clear x0 x1 x2 x3)
 obtain ⟨⟨z0, z1, z2, z3⟩, f0, f1, f2, f3⟩ := blk4 HP6.out
 obtain ⟨⟨x0, x1, x2, x3⟩, _⟩ := blk4' HT6.out
 have hl6 := blk_lt HP6.out
 go_wp2
 refine bodyPost_ret (v := .tuple #[.agg #[.int .i64 0, .int .i64 0, .string ⟨#[]⟩, .slice none 0 0], .int .i64 f, .int .i64 k]) (by simp [results, Tryz.results132, go_sem, *]) rfl ?_
 refine ⟨none, 0, rfl, ExF.leaf rfl, ?_⟩
 first
 | exact (below_set4' HB6.out (by rw [HPW.out]; exact Nat.le_refl _) _ _ _ _).alloc (by simpa using HB6.out.size) _
 | exact below_set4' (HB6.out.alloc HB6.out.size _) (by rw [HPW.out]; exact Nat.le_refl _) _ _ _ _
set_option maxHeartbeats 8000000 in
set_option maxRecDepth 100000 in
theorem xun_op3_ok (l : List Tok) (A : Option Addr) (c : Nat) (first at_ : Int) (t : Tok) (w : World) (hr : tokK.Row [] w A l) (hlc : l.length ≤ c) (ht : tokAt l at_ = t) (hf0 : 0 ≤ first) (hf1 : first ≤ 1152921504606846976) (h1 : first ≤ at_) (h3 : at_ ≤ first + 64) (k45 : (t.kind == 4 && seq t.text ⟨#[45]⟩) = false) (k33 : (t.kind == 4 && seq t.text ⟨#[33]⟩) = true) (k40 : (t.kind == 4 && seq t.text ⟨#[40]⟩) = false) (hk : t.kind = 4) (h64 : at_ - first < 64) (e : Ex) (f k : Int) (hk1 : first ≤ k) (hk2 : k ≤ first + 64) (rd : ∀ W, tokK.Row [] W A l → Calls Tryz.prog 132 #[.slice A l.length c, .int .i64 first, .int .i64 (at_ + 1)] W (TakePost W.heap.size (e, f, k) W)) (hf : f = 0) :
  Calls Tryz.prog 132 #[.slice A l.length c, .int .i64 first, .int .i64 at_] w (TakePost w.heap.size (node1 3 e, 0, k) w) := by
 have hu : True := And.elim (fun _ _ => trivial) (And.intro (And.intro (And.intro hf0 hf1) (And.intro h1 h3)) (And.intro hk1 hk2))
 clear hu
 have n2 : (t.kind == 2) = false := beq_eq_false_iff_ne.2 (by omega)
 have m2 : (t.kind != 2) = true := bne_iff_ne.2 (by omega)
 have n1 : (t.kind == 1) = false := beq_eq_false_iff_ne.2 (by omega)
 have m1 : (t.kind != 1) = true := bne_iff_ne.2 (by omega)
 have g1 : at_ - first < 64 := h64
 have RD := Lib.hid rd
 clear hk rd
 subst hf
 have HR := Lib.hid hr
 have HTK := Lib.hid ht
 have K45 : Hid ((t.kind == 4 && seq t.text ⟨#[45]⟩) = false) := Lib.hid k45
 have K33 : Hid ((t.kind == 4 && seq t.text ⟨#[33]⟩) = true) := Lib.hid k33
 have K40 : Hid ((t.kind == 4 && seq t.text ⟨#[40]⟩) = false) := Lib.hid k40
 clear hr ht k45 k33 k40
 go_enter Tryz.func132, Tryz.ntmps132
 go_wp2_with fail
 obtain ⟨w0, hw0⟩ : ∃ w', w.alloc (.cells #[.int .i64 0, .int .i64 0, .string ⟨#[]⟩, .slice none 0 0] 41 (0, 0)) = w' := ⟨_, rfl⟩
 have hb0 : Below w.heap.size w w0 := hw0 ▸ (Below.refl _ _).alloc (Nat.le_refl _) _
 have hz0 : w0.heap[w.heap.size]? = some (.cells #[.int .i64 0, .int .i64 0, .string ⟨#[]⟩, .slice none 0 0] 41 (0, 0)) := hw0 ▸ heap_alloc_new _ _
 obtain ⟨P, hP⟩ : ∃ P, w.heap.size = P := ⟨_, rfl⟩
 rw [hw0, hP]
 rw [hP] at hz0
 have HPW := Lib.hid hP
 have HB0 := Lib.hid hb0
 have HP0 := Lib.hid hz0
 clear hb0 hz0 hw0 hP
 refine (xtoken_any l A c at_ w0 (HR.out.keep (Same.of_below HB0.out)) hlc).mono ?_
 rw [HTK.out]
 rintro r w1 ⟨rfl, hb1⟩
 have HB1 := Lib.hid (HB0.out.trans (hb1.mono HB0.out.size))
 have HP1 := Lib.hid ((hb1.block P (blk_lt HP0.out)).trans HP0.out)
 clear hb1
 go_wp2_with fail
 obtain ⟨w2, hw2⟩ : ∃ w', w1.alloc (.cells #[.int .i64 t.kind, .string t.text, .int .i64 t.n, .int .i64 t.at_] 60 (0, 0)) = w' := ⟨_, rfl⟩
 have hb2 : Below w1.heap.size w1 w2 := hw2 ▸ (Below.refl _ _).alloc (Nat.le_refl _) _
 have hz2 : w2.heap[w1.heap.size]? = some (.cells #[.int .i64 t.kind, .string t.text, .int .i64 t.n, .int .i64 t.at_] 60 (0, 0)) := hw2 ▸ heap_alloc_new _ _
 obtain ⟨T, hT⟩ : ∃ T, w1.heap.size = T := ⟨_, rfl⟩
 rw [hw2, hT]
 rw [hT] at hz2
 have HPT : Hid (P < T) := Lib.hid (by rw [← hT]; exact blk_lt HP1.out)
 have HB2 := Lib.hid (HB1.out.trans (hb2.mono HB1.out.size))
 have HP2 := Lib.hid ((hb2.block P (blk_lt HP1.out)).trans HP1.out)
 have HT2 := Lib.hid hz2
 clear hb2 hz2 hw2 hT
 refine (xis_any t ⟨#[45]⟩ w2).mono ?_
 rw [K45.out]
 rintro r w3 ⟨rfl, hb3⟩
 have HB3 := Lib.hid (HB2.out.trans (hb3.mono HB2.out.size))
 have HP3 := Lib.hid ((hb3.block P (blk_lt HP2.out)).trans HP2.out)
 have HT3 := Lib.hid ((hb3.block T (blk_lt HT2.out)).trans HT2.out)
 clear hb3
 (try clear x0 x1 x2 x3)
 obtain ⟨⟨x0, x1, x2, x3⟩, _⟩ := blk4' HT3.out
 go_wp2_with fail
 refine (xis_any t ⟨#[33]⟩ w3).mono ?_
 rw [K33.out]
 rintro r w4 ⟨rfl, hb4⟩
 have HB4 := Lib.hid (HB3.out.trans (hb4.mono HB3.out.size))
 have HP4 := Lib.hid ((hb4.block P (blk_lt HP3.out)).trans HP3.out)
 have HT4 := Lib.hid ((hb4.block T (blk_lt HT3.out)).trans HT3.out)
 clear hb4
 (try clear x0 x1 x2 x3)
 obtain ⟨⟨x0, x1, x2, x3⟩, _⟩ := blk4' HT4.out
 go_wp2_with fail
 refine (xis_any t ⟨#[40]⟩ w4).mono ?_
 rw [K40.out]
 rintro r w5 ⟨rfl, hb5⟩
 have HB5 := Lib.hid (HB4.out.trans (hb5.mono HB4.out.size))
 have HP5 := Lib.hid ((hb5.block P (blk_lt HP4.out)).trans HP4.out)
 have HT5 := Lib.hid ((hb5.block T (blk_lt HT4.out)).trans HT4.out)
 clear hb5
 (try clear x0 x1 x2 x3)
 obtain ⟨⟨x0, x1, x2, x3⟩, _⟩ := blk4' HT5.out
 have hpt := HPT.out
 obtain ⟨⟨z0, z1, z2, z3⟩, f0, f1, f2, f3⟩ := blk4 HP5.out
 go_wp2_with fail
 refine (RD.out w5 (HR.out.keep (Same.of_below HB5.out))).mono ?_
 rintro r w6 ⟨B, d, rfl, hx6, hb6⟩
 have HB6 := Lib.hid (HB5.out.trans (hb6.mono HB5.out.size))
 have HP6 := Lib.hid ((hb6.block P (blk_lt HP5.out)).trans HP5.out)
 have HT6 := Lib.hid ((hb6.block T (blk_lt HT5.out)).trans HT5.out)
 have HX6 := Lib.hid hx6
 clear hx6 hb6
 clear z0 z1 z2 z3 f0 f1 f2 f3
 (try clear x0 x1 x2 x3)
 obtain ⟨⟨z0, z1, z2, z3⟩, f0, f1, f2, f3⟩ := blk4 HP6.out
 obtain ⟨⟨x0, x1, x2, x3⟩, _⟩ := blk4' HT6.out
 go_upto_region 24 with fail
 obtain ⟨w7, hw7⟩ : ∃ w', w6.alloc (.cells #[.int .i64 e.op, .int .i64 e.n, .string e.name, .slice B e.kids.length d] 41 (0, 0)) = w' := ⟨_, rfl⟩
 have hb7 : Below w6.heap.size w6 w7 := hw7 ▸ (Below.refl _ _).alloc (Nat.le_refl _) _
 have hq7 : ExBk w7 w6.heap.size e B d := hw7 ▸ heap_alloc_new _ _
 obtain ⟨Q, hQ⟩ : ∃ Q, w6.heap.size = Q := ⟨_, rfl⟩
 try rw [hw7, hQ]
 rw [hQ] at hq7
 have HPQ : Hid (P < Q) := Lib.hid (by rw [← hQ]; exact blk_lt HP6.out)
 have HB7 := Lib.hid (HB6.out.trans (hb7.mono HB6.out.size))
 have HP7 := Lib.hid ((hb7.block P (blk_lt HP6.out)).trans HP6.out)
 have HT7 := Lib.hid ((hb7.block T (blk_lt HT6.out)).trans HT6.out)
 have HX7 := Lib.hid (HX6.out.below hb7)
 have HQ7 := Lib.hid hq7
 clear hb7 hq7 hw7 hQ
 clear z0 z1 z2 z3 f0 f1 f2 f3
 (try clear x0 x1 x2 x3)
 obtain ⟨⟨z0, z1, z2, z3⟩, f0, f1, f2, f3⟩ := blk4 HP7.out
 obtain ⟨⟨x0, x1, x2, x3⟩, _⟩ := blk4' HT7.out
 obtain ⟨⟨y0, y1, y2, y3⟩, _⟩ := blk4' HQ7.out
 have hpq := HPQ.out
 have hl7 := blk_lt HP7.out
 go_wp2
 refine bodyPost_ret (v := .tuple #[.agg #[.int .i64 3, .int .i64 0, .string ⟨#[]⟩, .slice (some ⟨w7.heap.size, 0, none⟩) 1 1], .int .i64 0, .int .i64 k]) (by simp [results, Tryz.results132, go_sem, *]) rfl ?_
 have hS := same_set4 w7 P (.int .i64 3) (.int .i64 0) (.string ⟨#[]⟩) (.slice (some ⟨w7.heap.size, 0, none⟩) 1 1)
 have hXS := (HX7.out.keep hS (fun q hq => by simp at hq; subst hq; exact blk_lt HP5.out)).more (Q := fun q => q < w.heap.size) (fun q hq => .inl (by have := HB5.out.size; show q < w5.heap.size; omega))
 refine ⟨some ⟨w7.heap.size, 0, none⟩, 1, rfl, ?_, ?_⟩
 ·refine ExF.one (k := w7.heap.size) (t := 41) (by have := HB7.out.size; omega) (hXS.below ((Below.refl _ _).alloc (Nat.le_refl _) _)) ?_ 3
  have h := heap_alloc_new ((((w7.setCell ⟨P, 0, none⟩ (.int .i64 3)).setCell ⟨P, 1, none⟩ (.int .i64 0)).setCell ⟨P, 2, none⟩ (.string ⟨#[]⟩)).setCell ⟨P, 3, none⟩ (.slice (some ⟨w7.heap.size, 0, none⟩) 1 1)) (.cells #[.int .i64 e.op, .int .i64 e.n, .string e.name, .slice B e.kids.length d] 41 (0, 0))
  simpa using h
 ·exact (below_set4' HB7.out (by rw [HPW.out]; exact Nat.le_refl _) _ _ _ _).alloc (by simpa using HB7.out.size) _
end Go.Proofs.YtgcfjkfipkfijaaGreatDoor
namespace Go.Proofs.YtgcfjkfipkfijaaGreatDoor
open Go Go.RowKit Go.Lib
def rlF (B : Int → Ex × Int × Int) (l : List Tok) (first n : Int) : Nat → Ex → Int → Int → Ex × Int × Int
 | 0, e, f, k => (e, f, k)
 | m + 1, e, f, k =>
  if f ≠ 0 then (zEx, f, k)
  else if twoX n (tokAt l k) < 0 then (e, 0, k)
  else if 64 ≤ k - first then (zEx, 2, k)
  else if (B (k + 1)).2.1 ≠ 0 then (zEx, (B (k + 1)).2.1, (B (k + 1)).2.2)
  else if n = 3 then (node2 (twoX n (tokAt l k)) e (B (k + 1)).1, 0, (B (k + 1)).2.2)
  else rlF B l first n m (node2 (twoX n (tokAt l k)) e (B (k + 1)).1) 0 (B (k + 1)).2.2
set_option maxHeartbeats 16000000 in
set_option maxRecDepth 100000 in
theorem xread_line (l : List Tok) (A : Option Addr) (c : Nat) (first at_ n : Int) (w : World) (B : Int → Ex × Int × Int) (hr : tokK.Row [] w A l) (hlc : l.length ≤ c) (hf0 : 0 ≤ first) (hf1 : first ≤ 1152921504606846976) (b0 : Int) (hb0 : first ≤ b0) (h1 : b0 ≤ at_) (h3 : at_ ≤ first + 64) (hn1 : 1 ≤ n) (hn5 : n ≤ 5)
  (hB : ∀ k, b0 ≤ k → k ≤ first + 64 → k ≤ (B k).2.2 ∧ (B k).2.2 ≤ first + 64)
  (rd : ∀ (k : Int) (W : World), tokK.Row [] W A l → b0 ≤ k → k ≤ first + 64 → Below w.heap.size w W → Calls Tryz.prog 122 #[.slice A l.length c, .int .i64 first, .int .i64 k, .int .i64 (n + 1)] W (TakePost W.heap.size (B k) W)) :
  Calls Tryz.prog 122 #[.slice A l.length c, .int .i64 first, .int .i64 at_, .int .i64 n] w (TakePost w.heap.size (rlF B l first n 66 (B at_).1 (B at_).2.1 (B at_).2.2) w) := by
 have HR := Lib.hid hr
 have HBB := Lib.hid hB
 have RD := Lib.hid rd
 have n6 : (n == 6) = false := beq_eq_false_iff_ne.2 (by omega)
 obtain ⟨ANS, hANS⟩ : ∃ a, rlF B l first n 66 (B at_).1 (B at_).2.1 (B at_).2.2 = a := ⟨_, rfl⟩
 rw [hANS]
 have HANS := Lib.hid hANS
 have hb0a := hB at_ h1 h3
 clear hr hB rd hANS
 go_enter Tryz.func122, Tryz.ntmps122
 go_wp2_with fail
 obtain ⟨w0, hw0⟩ : ∃ w', w.alloc (.cells #[.int .i64 0, .int .i64 0, .string ⟨#[]⟩, .slice none 0 0] 41 (0, 0)) = w' := ⟨_, rfl⟩
 have hbl0 : Below w.heap.size w w0 := hw0 ▸ (Below.refl _ _).alloc (Nat.le_refl _) _
 have hz0 : w0.heap[w.heap.size]? = some (.cells #[.int .i64 0, .int .i64 0, .string ⟨#[]⟩, .slice none 0 0] 41 (0, 0)) := hw0 ▸ heap_alloc_new _ _
 obtain ⟨P, hP⟩ : ∃ P, w.heap.size = P := ⟨_, rfl⟩
 rw [hw0, hP]
 rw [hP] at hz0
 have HPW := Lib.hid hP
 have HB0 := Lib.hid hbl0
 have HP0 := Lib.hid hz0
 clear hbl0 hz0 hw0 hP
 refine (RD.out at_ w0 (HR.out.keep (Same.of_below HB0.out)) h1 h3 HB0.out).mono ?_
 obtain ⟨⟨e0, f, k0⟩, hp0⟩ : ∃ p, B at_ = p := ⟨_, rfl⟩
 rw [hp0] at HANS hb0a ⊢
 rintro r w1 ⟨B1, d1, rfl, hx1, hb1⟩
 simp only at HANS hb0a hx1
 have HB1 := Lib.hid (HB0.out.trans (hb1.mono HB0.out.size))
 have HP1 := Lib.hid ((hb1.block P (blk_lt HP0.out)).trans HP0.out)
 have HX1 := Lib.hid hx1
 have HPl0 := Lib.hid (blk_lt HP0.out)
 clear hb1 hx1 hp0
 go_wp2_with fail
 obtain ⟨w2, hw2⟩ : ∃ w', w1.alloc (.cells #[.int .i64 e0.op, .int .i64 e0.n, .string e0.name, .slice B1 e0.kids.length d1] 41 (0, 0)) = w' := ⟨_, rfl⟩
 have hb2 : Below w1.heap.size w1 w2 := hw2 ▸ (Below.refl _ _).alloc (Nat.le_refl _) _
 have hq2 : ExBk w2 w1.heap.size e0 B1 d1 := hw2 ▸ heap_alloc_new _ _
 obtain ⟨E, hE⟩ : ∃ E, w1.heap.size = E := ⟨_, rfl⟩
 rw [hw2, hE]
 rw [hE] at hq2
 have HPE : Hid (P < E) := Lib.hid (by rw [← hE]; exact blk_lt HP1.out)
 have hx2 : ExF (fun q => q ≤ P ∨ q = E) w2 e0 B1 d1 := (HX1.out.more (Q := fun q => q ≤ P ∨ q = E) (fun q hq => by have := HPl0.out; rcases hq with hq | hq; exact .inl (by show q < w0.heap.size; omega); exact .inr (by omega))).below hb2
 have HB2 := Lib.hid (HB1.out.trans (hb2.mono HB1.out.size))
 have HP2 := Lib.hid ((hb2.block P (blk_lt HP1.out)).trans HP1.out)
 have HX2 := Lib.hid hx2
 have HQ2 := Lib.hid hq2
 clear hb2 hq2 hx2 hw2 hE
 go_loopg [13] 67 (fun g s13 w' => ∃ (m : Nat) (e : Ex) (k : Int) (B' : Option Addr) (d' : Nat), s13 = .int .i64 k ∧ rlF B l first n m e f k = ANS ∧ m < g ∧ first + 66 - m ≤ k ∧ b0 ≤ k ∧ k ≤ first + 64 ∧
  ExBk w' E e B' d' ∧ ExF (fun q => q ≤ P ∨ q = E) w' e B' d' ∧ w'.heap[P]? = some (.cells #[.int .i64 0, .int .i64 0, .string ⟨#[]⟩, .slice none 0 0] 41 (0, 0)) ∧ Below w.heap.size w w')
 case atStart => exact ⟨66, e0, k0, B1, d1, rfl, HANS.out, by omega, by omega, by omega, by omega, HQ2.out, HX2.out, HP2.out, HB2.out⟩
 case round =>
  obtain ⟨m, e, k, B', d', rfl, hans, hmg, hmk, hk1, hk2, hq, hx, hp, hb⟩ := hrel
  obtain ⟨gk, rfl⟩ : ∃ k, gk = k + 1 := ⟨gk - 1, by omega⟩
  obtain ⟨m, rfl⟩ : ∃ j, m = j + 1 := ⟨m - 1, by omega⟩
  rw [rlF] at hans
  have HQ := Lib.hid hq
  have HX := Lib.hid hx
  have HP := Lib.hid hp
  have HB := Lib.hid hb
  have HRr := Lib.hid (HR.out.keep (Same.of_below hb))
  have hpe := HPE.out
  have hlE := blk_lt hq
  have hlP := blk_lt hp
  clear hq hx hp hb HQ2 HX2 HP2 HB2 HX1 HP1 HB1 HP0 HB0 hb0a HANS
  by_cases hf : f = 0
  ·subst hf
   rw [if_neg (by simp)] at hans
   obtain ⟨t, ht⟩ : ∃ t, tokAt l k = t := ⟨_, rfl⟩
   obtain ⟨op, hop⟩ : ∃ o, twoX n t = o := ⟨_, rfl⟩
   rw [ht, hop] at hans
   have HTK := Lib.hid ht
   have HOP := Lib.hid hop
   have HA := Lib.hid hans
   clear ht hop hans
   go_wp2_with fail
   refine (xtoken_any l A c k wr HRr.out hlc).mono ?_
   rw [HTK.out]
   rintro r w3 ⟨rfl, hb3⟩
   have HB3 := Lib.hid hb3
   clear hb3
   go_wp2_with fail
   refine (xtwo_any n t w3).mono ?_
   rw [HOP.out]
   rintro r w4 ⟨rfl, hb4⟩
   have hb34 := HB3.out.trans (hb4.mono HB3.out.size)
   have HB4 := Lib.hid hb34
   have HQ4 := Lib.hid (HQ.out.step hb34)
   have HX4 := Lib.hid (HX.out.below hb34)
   have HP4 := Lib.hid ((hb34.block P hlP).trans HP.out)
   have HW4 := Lib.hid (HB.out.trans (hb34.mono HB.out.size))
   obtain ⟨⟨z0, z1, z2, z3⟩, g0, g1, g2, g3⟩ := blk4 HP4.out
   obtain ⟨⟨y0, y1, y2, y3⟩, u0, u1, u2, u3⟩ := blk4 HQ4.out
   clear hb4 hb34
   by_cases ho : op < 0
   ·have hans := HA.out
    rw [if_pos ho] at hans
    have HA2 := Lib.hid hans
    clear hans
    go_wp2
    refine bodyPost_ret (v := .tuple #[.agg #[.int .i64 e.op, .int .i64 e.n, .string e.name, .slice B' e.kids.length d'], .int .i64 0, .int .i64 k]) (by simp [results, Tryz.results122, go_sem, *]) rfl ?_
    rw [← HA2.out]
    refine ⟨B', d', rfl, (HX4.out.keep (same_set4 w4 P _ _ _ _) (fun q hq => by simp at hq; subst hq; exact .inl (Nat.le_refl _))).more (fun q hq => .inl (.inl (by have := HPW.out; show q ≤ P; omega))), ?_⟩
    exact below_set4' HW4.out (by rw [HPW.out]; exact Nat.le_refl _) _ _ _ _
   ·have ho' : 0 ≤ op := by omega
    have hans := HA.out
    rw [if_neg ho] at hans
    clear ho
    by_cases h64 : 64 ≤ k - first
    ·rw [if_pos h64] at hans
     have HA2 := Lib.hid hans
     clear hans
     go_wp2
     refine bodyPost_ret (v := .tuple #[.agg #[.int .i64 0, .int .i64 0, .string ⟨#[]⟩, .slice none 0 0], .int .i64 2, .int .i64 k]) (by simp [results, Tryz.results122, go_sem, *]) rfl ?_
     rw [← HA2.out]
     refine ⟨none, 0, rfl, ExF.leaf rfl, ?_⟩
     first
     | exact HW4.out
     | exact below_set4' HW4.out (by rw [HPW.out]; exact Nat.le_refl _) _ _ _ _
    ·have h64' : k - first < 64 := by omega
     rw [if_neg h64] at hans
     clear h64
     have hbk := HBB.out (k + 1) (by omega) (by omega)
     obtain ⟨⟨e2, f2, k2⟩, hp2⟩ : ∃ p, B (k + 1) = p := ⟨_, rfl⟩
     rw [hp2] at hans hbk
     simp only at hans hbk
     have HP2E := Lib.hid hp2
     have HA2 := Lib.hid hans
     clear hans hp2
     go_wp2_with fail
     refine (RD.out (k + 1) w4 (HR.out.keep (Same.of_below HW4.out)) (by omega) (by omega) HW4.out).mono ?_
     rw [HP2E.out]
     rintro r w5 ⟨B5, d5, rfl, hx5, hb5⟩
     have hx5' : ExF (fun q => q < w4.heap.size) w5 e2 B5 d5 := hx5
     have HX5 := Lib.hid (HX4.out.below hb5)
     have HY5 := Lib.hid (hx5'.more (Q := fun q => q ≤ P ∨ q = E) (fun q hq => .inl (by have := blk_lt HQ4.out; show q < w4.heap.size; rcases hq with hq | hq <;> omega)))
     have HQ5 := Lib.hid (HQ4.out.step hb5)
     have HP5 := Lib.hid ((hb5.block P (blk_lt HP4.out)).trans HP4.out)
     have HW5 := Lib.hid (HW4.out.trans (hb5.mono HW4.out.size))
     clear hb5 hx5 hx5' z0 z1 z2 z3 g0 g1 g2 g3 y0 y1 y2 y3 u0 u1 u2 u3
     obtain ⟨⟨z0, z1, z2, z3⟩, g0, g1, g2, g3⟩ := blk4 HP5.out
     obtain ⟨⟨y0, y1, y2, y3⟩, u0, u1, u2, u3⟩ := blk4 HQ5.out
     have hl5 := blk_lt HP5.out
     have hm5 := blk_lt HQ5.out
     by_cases hf2 : f2 = 0
     ·subst hf2
      have hans := HA2.out
      rw [if_neg (by simp)] at hans
      have HA3 := Lib.hid hans
      clear hans
      go_upto_region 11 with fail
      obtain ⟨w6, hw6⟩ : ∃ w', w5.alloc (.cells #[.int .i64 e2.op, .int .i64 e2.n, .string e2.name, .slice B5 e2.kids.length d5] 41 (0, 0)) = w' := ⟨_, rfl⟩
      have hb6 : Below w5.heap.size w5 w6 := hw6 ▸ (Below.refl _ _).alloc (Nat.le_refl _) _
      have hq6 : ExBk w6 w5.heap.size e2 B5 d5 := hw6 ▸ heap_alloc_new _ _
      obtain ⟨R, hR⟩ : ∃ R, w5.heap.size = R := ⟨_, rfl⟩
      try rw [hw6, hR]
      rw [hR] at hq6
      have hEr : E < R := by rw [← hR]; exact blk_lt HQ5.out
      have HX6 := Lib.hid (HX5.out.below hb6)
      have HY6 := Lib.hid (HY5.out.below hb6)
      have HQ6 := Lib.hid (HQ5.out.step hb6)
      have HP6 := Lib.hid ((hb6.block P (blk_lt HP5.out)).trans HP5.out)
      have HR6 := Lib.hid hq6
      have HW6 := Lib.hid (HW5.out.trans (hb6.mono HW5.out.size))
      clear hb6 hq6 hw6 hR z0 z1 z2 z3 g0 g1 g2 g3 y0 y1 y2 y3 u0 u1 u2 u3 hl5 hm5
      obtain ⟨⟨z0, z1, z2, z3⟩, g0, g1, g2, g3⟩ := blk4 HP6.out
      obtain ⟨⟨y0, y1, y2, y3⟩, u0, u1, u2, u3⟩ := blk4 HQ6.out
      obtain ⟨⟨r0, r1, r2, r3⟩, _⟩ := blk4' HR6.out
      have hl6 := blk_lt HP6.out
      have hm6 := blk_lt HQ6.out
      have hr6 := blk_lt HR6.out
      by_cases hn3 : n = 3
      ·have n3 : (n == 3) = true := beq_iff_eq.2 hn3
       have hans := HA3.out
       rw [if_pos hn3] at hans
       have HA4 := Lib.hid hans
       clear hans hn3
       go_wp2
       refine bodyPost_ret (v := .tuple #[.agg #[.int .i64 op, .int .i64 0, .string ⟨#[]⟩, .slice (some ⟨w6.heap.size, 0, none⟩) 2 2], .int .i64 0, .int .i64 k2]) (by simp [results, Tryz.results122, go_sem, *]) rfl ?_
       rw [← HA4.out]
       have hS1 := same_set4 w6 E (.int .i64 op) (.int .i64 0) (.string ⟨#[]⟩) (.slice (some ⟨w6.heap.size, 0, none⟩) 2 2)
       have hS2 := same_set4 ((((w6.setCell ⟨E, 0, none⟩ (.int .i64 op)).setCell ⟨E, 1, none⟩ (.int .i64 0)).setCell ⟨E, 2, none⟩ (.string ⟨#[]⟩)).setCell ⟨E, 3, none⟩ (.slice (some ⟨w6.heap.size, 0, none⟩) 2 2)) P (.int .i64 op) (.int .i64 0) (.string ⟨#[]⟩) (.slice (some ⟨w6.heap.size, 0, none⟩) 2 2)
       have hPW := HPW.out
       have hX := (((HX6.out.keep hS1 (fun q hq => by simp at hq; exact .inr hq)).keep hS2 (fun q hq => by simp at hq; exact .inl (by omega))).more (Q := fun q => q < w.heap.size) (fun q hq => .inl (.inl (by show q ≤ P; omega)))).below ((Below.refl _ _).alloc (Nat.le_refl _) (.cells #[.int .i64 e.op, .int .i64 e.n, .string e.name, .slice B' e.kids.length d', .int .i64 e2.op, .int .i64 e2.n, .string e2.name, .slice B5 e2.kids.length d5] 41 (0, 0)))
       have hY := (((HY6.out.keep hS1 (fun q hq => by simp at hq; exact .inr hq)).keep hS2 (fun q hq => by simp at hq; exact .inl (by omega))).more (Q := fun q => q < w.heap.size) (fun q hq => .inl (.inl (by show q ≤ P; omega)))).below ((Below.refl _ _).alloc (Nat.le_refl _) (.cells #[.int .i64 e.op, .int .i64 e.n, .string e.name, .slice B' e.kids.length d', .int .i64 e2.op, .int .i64 e2.n, .string e2.name, .slice B5 e2.kids.length d5] 41 (0, 0)))
       refine ⟨some ⟨w6.heap.size, 0, none⟩, 2, rfl, ?_, ?_⟩
       ·refine ExF.two (k := w6.heap.size) (t := 41) (by omega) hX hY ?_ op
        have h := heap_alloc_new ((((((((w6.setCell ⟨E, 0, none⟩ (.int .i64 op)).setCell ⟨E, 1, none⟩ (.int .i64 0)).setCell ⟨E, 2, none⟩ (.string ⟨#[]⟩)).setCell ⟨E, 3, none⟩ (.slice (some ⟨w6.heap.size, 0, none⟩) 2 2)).setCell ⟨P, 0, none⟩ (.int .i64 op)).setCell ⟨P, 1, none⟩ (.int .i64 0)).setCell ⟨P, 2, none⟩ (.string ⟨#[]⟩)).setCell ⟨P, 3, none⟩ (.slice (some ⟨w6.heap.size, 0, none⟩) 2 2)) (.cells #[.int .i64 e.op, .int .i64 e.n, .string e.name, .slice B' e.kids.length d', .int .i64 e2.op, .int .i64 e2.n, .string e2.name, .slice B5 e2.kids.length d5] 41 (0, 0))
        simpa using h
       ·exact (below_set4' (below_set4' HW6.out (by omega) _ _ _ _) (by omega) _ _ _ _).alloc (by simpa using HW6.out.size) _
      ·have n3 : (n == 3) = false := beq_eq_false_iff_ne.2 hn3
       have hans := HA3.out
       rw [if_neg hn3] at hans
       have HA4 := Lib.hid hans
       clear hans hn3
       go_wp2
       go_roundg gk
       case measure => omega
       case rel =>
        have hS1 := same_set4 w6 E (.int .i64 op) (.int .i64 0) (.string ⟨#[]⟩) (.slice (some ⟨w6.heap.size, 0, none⟩) 2 2)
        have hX := (HX6.out.keep hS1 (fun q hq => by simp at hq; exact .inr hq)).below ((Below.refl _ _).alloc (Nat.le_refl _) (.cells #[.int .i64 e.op, .int .i64 e.n, .string e.name, .slice B' e.kids.length d', .int .i64 e2.op, .int .i64 e2.n, .string e2.name, .slice B5 e2.kids.length d5] 41 (0, 0)))
        have hY := (HY6.out.keep hS1 (fun q hq => by simp at hq; exact .inr hq)).below ((Below.refl _ _).alloc (Nat.le_refl _) (.cells #[.int .i64 e.op, .int .i64 e.n, .string e.name, .slice B' e.kids.length d', .int .i64 e2.op, .int .i64 e2.n, .string e2.name, .slice B5 e2.kids.length d5] 41 (0, 0)))
        have hPW := HPW.out
        refine ⟨m, node2 op e e2, k2, some ⟨w6.heap.size, 0, none⟩, 2, rfl, HA4.out, by omega, by omega, by omega, by omega, ?_, ?_, ?_, ?_⟩
        ·exact (Below.heap_alloc _ _ _ (by simpa using hm6)).trans (blk_set4 HQ6.out (.int .i64 op) (.int .i64 0) (.string ⟨#[]⟩) (.slice (some ⟨w6.heap.size, 0, none⟩) 2 2))
        ·refine ExF.two (k := w6.heap.size) (t := 41) (by omega) hX hY ?_ op
         have h := heap_alloc_new ((((w6.setCell ⟨E, 0, none⟩ (.int .i64 op)).setCell ⟨E, 1, none⟩ (.int .i64 0)).setCell ⟨E, 2, none⟩ (.string ⟨#[]⟩)).setCell ⟨E, 3, none⟩ (.slice (some ⟨w6.heap.size, 0, none⟩) 2 2)) (.cells #[.int .i64 e.op, .int .i64 e.n, .string e.name, .slice B' e.kids.length d', .int .i64 e2.op, .int .i64 e2.n, .string e2.name, .slice B5 e2.kids.length d5] 41 (0, 0))
         simpa using h
        ·exact (Below.heap_alloc _ _ _ (by simpa using hl6)).trans (hS1.heap (by simp; omega) HP6.out)
        ·exact (below_set4' HW6.out (by omega) _ _ _ _).alloc (by simpa using HW6.out.size) _
     ·have hans := HA2.out
      rw [if_pos hf2] at hans
      have HA3 := Lib.hid hans
      have nf2 : (f2 != 0) = true := bnet hf2
      clear hans hf2
      go_wp2
      refine bodyPost_ret (v := .tuple #[.agg #[.int .i64 0, .int .i64 0, .string ⟨#[]⟩, .slice none 0 0], .int .i64 f2, .int .i64 k2]) (by simp [results, Tryz.results122, go_sem, *]) rfl ?_
      rw [← HA3.out]
      refine ⟨none, 0, rfl, ExF.leaf rfl, ?_⟩
      first
      | exact (below_set4' HW5.out (by rw [HPW.out]; exact Nat.le_refl _) _ _ _ _).alloc (by simpa using HW5.out.size) _
      | exact below_set4' (HW5.out.alloc HW5.out.size _) (by rw [HPW.out]; exact Nat.le_refl _) _ _ _ _
  ·rw [if_pos hf] at hans
   have HA2 := Lib.hid hans
   have nf : (f == 0) = false := beq_eq_false_iff_ne.2 hf
   obtain ⟨⟨z0, z1, z2, z3⟩, g0, g1, g2, g3⟩ := blk4 HP.out
   clear hans hf
   go_wp2
   refine bodyPost_ret (v := .tuple #[.agg #[.int .i64 0, .int .i64 0, .string ⟨#[]⟩, .slice none 0 0], .int .i64 f, .int .i64 k]) (by simp [results, Tryz.results122, go_sem, *]) rfl ?_
   rw [← HA2.out]
   refine ⟨none, 0, rfl, ExF.leaf rfl, ?_⟩
   first
   | exact HB.out
   | exact below_set4' HB.out (by rw [HPW.out]; exact Nat.le_refl _) _ _ _ _
end Go.Proofs.YtgcfjkfipkfijaaGreatDoor
namespace Go.Proofs.YtgcfjkfipkfijaaGreatDoor
open Go Go.RowKit Go.Lib
def res (p : Ex × St) : Ex × Int × Int := if p.2.bad ≠ 0 then (zEx, p.2.bad, p.2.at_) else (p.1, 0, p.2.at_)
theorem res_bad {p : Ex × St} (h : p.2.bad ≠ 0) : res p = (zEx, p.2.bad, p.2.at_) := if_pos h
theorem res_ok {p : Ex × St} (h : p.2.bad = 0) : res p = (p.1, 0, p.2.at_) := if_neg (by simpa using h)
theorem two_none {l : List Tok} {k : Int} {n : Nat} (h1 : 1 ≤ n) (h5 : n ≤ 5) (h : isP l (lo n) (hi n) ⟨k, 0⟩ = none) : twoX n (tokAt l k) = -1 := by
 rw [twoX_isP l k n h1 h5, h]
theorem two_some {l : List Tok} {k op : Int} {n : Nat} (h1 : 1 ≤ n) (h5 : n ≤ 5) (h : isP l (lo n) (hi n) ⟨k, 0⟩ = some op) : twoX n (tokAt l k) = op ∧ 0 ≤ op := by
 rw [twoX_isP l k n h1 h5, h]
 have hn : n = 1 ∨ n = 2 ∨ n = 3 ∨ n = 4 ∨ n = 5 := by omega
 have hlh : lo n ≤ hi n := by rcases hn with rfl | rfl | rfl | rfl | rfl <;> decide
 have := isP_is h hlh
 have := lo_line op n h1 h5 this.1 this.2.1
 exact ⟨rfl, by omega⟩
theorem rl_rowF {l : List Tok} {first : Int} {below : St → Ex × St} {n : Nat} (h1 : 1 ≤ n) (h5 : n ≤ 5) (h3 : n ≠ 3) : ∀ (m : Nat) (e : Ex) (k : Int),
  rlF (fun k => res (below ⟨k, 0⟩)) l first n m e 0 k = res (rowF l first (lo n) (hi n) below m e ⟨k, 0⟩)
 | 0, e, k => by rw [rlF]; exact (res_ok (p := (e, ⟨k, 0⟩)) rfl).symm
 | m + 1, e, k => by
  rw [rlF, if_neg (by simp)]
  cases hp : isP l (lo n) (hi n) ⟨k, 0⟩ with
  | none =>
   rw [two_none h1 h5 hp, if_pos (by decide), rowF_none hp]
   exact (res_ok (p := (e, ⟨k, 0⟩)) rfl).symm
  | some op =>
   obtain ⟨ho, ho0⟩ := two_some h1 h5 hp
   rw [ho, if_neg (by omega)]
   by_cases h64 : 64 ≤ k - first
   ·rw [if_pos h64, rowF_long hp h64]
    exact (res_bad (p := (e, failP 2 ⟨k, 0⟩)) (by simp [failP])).symm
   ·rw [if_neg h64, rowF_some hp (by show k - first < 64; omega)]
    simp only
    by_cases hb : (below ⟨k + 1, 0⟩).2.bad = 0
    ·rw [res_ok hb]
     simp only
     rw [if_neg (by simp), if_neg (by omega), rl_rowF h1 h5 h3 m, ← st_eta hb]
    ·rw [res_bad hb]
     simp only
     rw [if_pos hb, rowF_bad hb]
     exact (res_bad (p := (node2 op e (below ⟨k + 1, 0⟩).1, (below ⟨k + 1, 0⟩).2)) hb).symm
theorem rl_lev {l : List Tok} {first : Int} {un : St → Ex × St} {n : Nat} (h1 : 1 ≤ n) (h5 : n ≤ 5) (at_ : Int) :
  rlF (fun k => res (lev l first un (n + 1) ⟨k, 0⟩)) l first n 66 (res (lev l first un (n + 1) ⟨at_, 0⟩)).1 (res (lev l first un (n + 1) ⟨at_, 0⟩)).2.1 (res (lev l first un (n + 1) ⟨at_, 0⟩)).2.2 = res (lev l first un n ⟨at_, 0⟩) := by
 by_cases hb : (lev l first un (n + 1) ⟨at_, 0⟩).2.bad = 0
 ·rw [res_ok hb]
  by_cases h3 : n = 3
  ·subst h3
   simp only
   rw [rlF, if_neg (by simp), lev_cmp, cmpP]
   have hst := st_eta hb
   generalize hq : lev l first un (3 + 1) ⟨at_, 0⟩ = q at hb hst ⊢
   cases hp : isP l 9 14 ⟨q.2.at_, 0⟩ with
   | none =>
    rw [show twoX ((3 : Nat) : Int) (tokAt l q.2.at_) = -1 from two_none (n := 3) (by decide) (by decide) hp, if_pos (by decide), hst, hp]
    simp only
    rw [res_ok hb]
   | some op =>
    obtain ⟨ho, ho0⟩ := two_some (n := 3) (by decide) (by decide) hp
    rw [ho, if_neg (by omega), hst, hp]
    simp only
    by_cases h64 : 64 ≤ q.2.at_ - first
    ·rw [if_pos h64, passP_no (s := ⟨q.2.at_, 0⟩) h64, if_pos rfl]
     exact (res_bad (p := (q.1, failP 2 ⟨q.2.at_, 0⟩)) (by simp [failP])).symm
    ·rw [if_neg h64, passP_yes (s := ⟨q.2.at_, 0⟩) (by show q.2.at_ - first < 64; omega), if_neg (show ¬ (true = false) by decide)]
     simp only
     by_cases hb2 : (lev l first un 4 ⟨q.2.at_ + 1, 0⟩).2.bad = 0
     ·rw [show res (lev l first un (3 + 1) ⟨q.2.at_ + 1, 0⟩) = _ from res_ok hb2]
      simp only
      rw [if_neg (show ¬ ((0 : Int) ≠ 0) by decide), if_pos (show ((3 : Nat) : Int) = 3 from rfl)]
      exact (res_ok (p := (node2 op q.1 (lev l first un 4 ⟨q.2.at_ + 1, 0⟩).1, (lev l first un 4 ⟨q.2.at_ + 1, 0⟩).2)) hb2).symm
     ·rw [show res (lev l first un (3 + 1) ⟨q.2.at_ + 1, 0⟩) = _ from res_bad hb2]
      simp only
      rw [if_pos hb2]
      exact (res_bad (p := (node2 op q.1 (lev l first un 4 ⟨q.2.at_ + 1, 0⟩).1, (lev l first un 4 ⟨q.2.at_ + 1, 0⟩).2)) hb2).symm
  ·simp only
   rw [rl_rowF h1 h5 h3, lev_row (n := n) (by omega), rowP, ← st_eta hb]
 ·rw [res_bad hb, rlF, if_pos hb]
  by_cases h3 : n = 3
  ·subst h3
   rw [lev_cmp, cmpP, isP_bad hb]
   exact (res_bad hb).symm
  ·rw [lev_row (n := n) (by omega), rowP, rowF_bad hb]
   exact (res_bad hb).symm
end Go.Proofs.YtgcfjkfipkfijaaGreatDoor
namespace Go.Proofs.YtgcfjkfipkfijaaGreatDoor
open Go Go.RowKit Go.Lib
theorem one_sign {t : Tok} {a b : ByteArray} (hab : seq a b = false) (h : (t.kind == 4 && seq t.text a) = true) : (t.kind == 4 && seq t.text b) = false := by
 rw [Bool.and_eq_true] at h
 rw [seq_iff.1 h.2, hab, Bool.and_false]
theorem sign_kind {t : Tok} {a : ByteArray} (h : (t.kind == 4 && seq t.text a) = true) : t.kind = 4 := by
 rw [Bool.and_eq_true, beq_iff_eq] at h
 exact h.1
theorem sgn_of {t : Tok} {op : Int} {a : ByteArray} (hs : eSign op = a) (h : (t.kind == 4 && seq t.text a) = true) : Sgn op t := by
 refine ⟨sign_kind h, ?_⟩
 rw [Bool.and_eq_true] at h
 exact seq_iff.2 (hs.trans (seq_iff.1 h.2).symm)
theorem of_sgn {t : Tok} {op : Int} {a : ByteArray} (hs : eSign op = a) (h : Sgn op t) : (t.kind == 4 && seq t.text a) = true := by
 rw [Bool.and_eq_true, beq_iff_eq]
 exact ⟨h.1, seq_iff.2 ((seq_iff.1 h.2).symm.trans hs)⟩
theorem isP_neither {l : List Tok} {i : Int} (k45 : ((tokAt l i).kind == 4 && seq (tokAt l i).text ⟨#[45]⟩) = false) (k33 : ((tokAt l i).kind == 4 && seq (tokAt l i).text ⟨#[33]⟩) = false) : isP l 2 3 ⟨i, 0⟩ = none := by
 unfold isP
 refine isF_none _ _ (fun op h2 h3 hs => ?_)
 have : op = 2 ∨ op = 3 := by
  have : ((3 - 2 + 1 : Int).toNat : Int) = 2 := by decide
  omega
 rcases this with rfl | rfl
 ·rw [of_sgn (by decide) hs] at k45; cases k45
 ·rw [of_sgn (by decide) hs] at k33; cases k33
theorem long_op {l : List Tok} {first i op : Int} {un orr : St → Ex × St} (ho : op = 2 ∨ op = 3) (h : Sgn op (tokAt l i)) (hb : 64 ≤ i - first) : res (unS l first un orr ⟨i, 0⟩) = (zEx, 2, i) := by
 unfold unS
 rw [isP_un ho h]
 simp only
 rw [passP_no (s := ⟨i, 0⟩) hb, if_pos rfl]
 exact res_bad (p := (zEx, failP 2 ⟨i, 0⟩)) (by simp [failP])
theorem long_other {l : List Tok} {first i : Int} {un orr : St → Ex × St} (hp : isP l 2 3 ⟨i, 0⟩ = none) (hk : isOpen (tokAt l i) = true ∨ (tokAt l i).kind = 2 ∨ (tokAt l i).kind = 1) (hb : 64 ≤ i - first) : res (unS l first un orr ⟨i, 0⟩) = (zEx, 2, i) := by
 unfold unS
 rw [hp]
 simp only
 rw [if_neg (fun hc => by
  rcases hc with hc | ⟨c1, c2, c3⟩
  ·exact hc rfl
  ·rcases hk with hk | hk | hk
   ·rw [hk] at c1; cases c1
   ·exact c2 hk
   ·exact c3 hk), passP_no (s := ⟨i, 0⟩) hb, if_pos rfl]
 exact res_bad (p := (zEx, failP 2 ⟨i, 0⟩)) (by simp [failP])
theorem none_fits {l : List Tok} {first i : Int} {un orr : St → Ex × St} (hp : isP l 2 3 ⟨i, 0⟩ = none) (ho : isOpen (tokAt l i) = false) (k2 : (tokAt l i).kind ≠ 2) (k1 : (tokAt l i).kind ≠ 1) : res (unS l first un orr ⟨i, 0⟩) = (zEx, 11, i) := by
 unfold unS
 rw [hp]
 simp only
 rw [if_pos (.inr ⟨ho, k2, k1⟩)]
 exact res_bad (p := (zEx, failP 11 ⟨i, 0⟩)) (by simp [failP])
theorem xun_any (l : List Tok) (A : Option Addr) (c : Nat) (first at_ : Int) (un orr : St → Ex × St) (w : World) (hr : tokK.Row [] w A l) (hlc : l.length ≤ c) (hf0 : 0 ≤ first) (hf1 : first ≤ 1152921504606846976) (h1 : first ≤ at_) (h3 : at_ ≤ first + 64)
  (gu : Grows first un) (go : Grows first orr)
  (hU : at_ - first < 64 → ∀ W, tokK.Row [] W A l → Calls Tryz.prog 132 #[.slice A l.length c, .int .i64 first, .int .i64 (at_ + 1)] W (TakePost W.heap.size (res (un ⟨at_ + 1, 0⟩)) W))
  (hO : at_ - first < 64 → ∀ W, tokK.Row [] W A l → Calls Tryz.prog 122 #[.slice A l.length c, .int .i64 first, .int .i64 (at_ + 1), .int .i64 1] W (TakePost W.heap.size (res (orr ⟨at_ + 1, 0⟩)) W)) :
  Calls Tryz.prog 132 #[.slice A l.length c, .int .i64 first, .int .i64 at_] w (TakePost w.heap.size (res (unS l first un orr ⟨at_, 0⟩)) w) := by
 obtain ⟨t, ht⟩ : ∃ t, tokAt l at_ = t := ⟨_, rfl⟩
 by_cases c45 : (t.kind == 4 && seq t.text ⟨#[45]⟩) = true
 ·have k33 := one_sign (b := ⟨#[33]⟩) (by decide) c45
  have k40 := one_sign (b := ⟨#[40]⟩) (by decide) c45
  have hk := sign_kind c45
  have hs : Sgn 2 (tokAt l at_) := by rw [ht]; exact sgn_of (by decide) c45
  by_cases h64 : 64 ≤ at_ - first
  ·rw [long_op (.inl rfl) hs h64]
   exact xun_long_op2 l A c first at_ t w hr hlc ht hf0 hf1 h1 h3 c45 k33 k40 hk h64
  ·have h64' : at_ - first < 64 := by omega
   have hg := gu ⟨at_ + 1, 0⟩ (by show at_ + 1 ≤ first + 64; omega)
   simp only at hg
   have hu := hU h64'
   rw [unS_op (.inl rfl) hs h64']
   by_cases hb : (un ⟨at_ + 1, 0⟩).2.bad = 0
   ·rw [res_ok hb] at hu
    rw [res_ok (p := (node1 2 (un ⟨at_ + 1, 0⟩).1, (un ⟨at_ + 1, 0⟩).2)) hb]
    exact xun_op2_ok l A c first at_ t w hr hlc ht hf0 hf1 h1 h3 c45 k33 k40 hk h64' _ _ _ (Int.le_trans (by omega : first ≤ at_ + 1) hg.1) hg.2 hu rfl
   ·rw [res_bad hb] at hu
    rw [res_bad (p := (node1 2 (un ⟨at_ + 1, 0⟩).1, (un ⟨at_ + 1, 0⟩).2)) hb]
    exact xun_op2_bad l A c first at_ t w hr hlc ht hf0 hf1 h1 h3 c45 k33 k40 hk h64' _ _ _ (Int.le_trans (by omega : first ≤ at_ + 1) hg.1) hg.2 hu hb
 have k45 := Bool.eq_false_iff.2 c45
 by_cases c33 : (t.kind == 4 && seq t.text ⟨#[33]⟩) = true
 ·have k40 := one_sign (b := ⟨#[40]⟩) (by decide) c33
  have hk := sign_kind c33
  have hs : Sgn 3 (tokAt l at_) := by rw [ht]; exact sgn_of (by decide) c33
  by_cases h64 : 64 ≤ at_ - first
  ·rw [long_op (.inr rfl) hs h64]
   exact xun_long_op3 l A c first at_ t w hr hlc ht hf0 hf1 h1 h3 k45 c33 k40 hk h64
  ·have h64' : at_ - first < 64 := by omega
   have hg := gu ⟨at_ + 1, 0⟩ (by show at_ + 1 ≤ first + 64; omega)
   simp only at hg
   have hu := hU h64'
   rw [unS_op (.inr rfl) hs h64']
   by_cases hb : (un ⟨at_ + 1, 0⟩).2.bad = 0
   ·rw [res_ok hb] at hu
    rw [res_ok (p := (node1 3 (un ⟨at_ + 1, 0⟩).1, (un ⟨at_ + 1, 0⟩).2)) hb]
    exact xun_op3_ok l A c first at_ t w hr hlc ht hf0 hf1 h1 h3 k45 c33 k40 hk h64' _ _ _ (Int.le_trans (by omega : first ≤ at_ + 1) hg.1) hg.2 hu rfl
   ·rw [res_bad hb] at hu
    rw [res_bad (p := (node1 3 (un ⟨at_ + 1, 0⟩).1, (un ⟨at_ + 1, 0⟩).2)) hb]
    exact xun_op3_bad l A c first at_ t w hr hlc ht hf0 hf1 h1 h3 k45 c33 k40 hk h64' _ _ _ (Int.le_trans (by omega : first ≤ at_ + 1) hg.1) hg.2 hu hb
 have k33 := Bool.eq_false_iff.2 c33
 have hnone : isP l 2 3 ⟨at_, 0⟩ = none := isP_neither (by rw [ht]; exact k45) (by rw [ht]; exact k33)
 by_cases c40 : (t.kind == 4 && seq t.text ⟨#[40]⟩) = true
 ·have hk := sign_kind c40
  have hop : isOpen (tokAt l at_) = true := by rw [ht]; exact c40
  by_cases h64 : 64 ≤ at_ - first
  ·rw [long_other hnone (.inl hop) h64]
   exact xun_long_open l A c first at_ t w hr hlc ht hf0 hf1 h1 h3 k45 k33 c40 hk h64
  ·have h64' : at_ - first < 64 := by omega
   have hg := go ⟨at_ + 1, 0⟩ (by show at_ + 1 ≤ first + 64; omega)
   simp only at hg
   have hu := hO h64'
   rw [unS_open hop h64']
   by_cases hb : (orr ⟨at_ + 1, 0⟩).2.bad = 0
   ·rw [res_ok hb] at hu
    by_cases hsh : isShut (tokAt l (orr ⟨at_ + 1, 0⟩).2.at_) = true
    ·rw [if_neg (by rw [hsh]; simp), if_pos hb]
     by_cases hl : 64 ≤ (orr ⟨at_ + 1, 0⟩).2.at_ - first
     ·have he : res ((orr ⟨at_ + 1, 0⟩).1, (passP first (orr ⟨at_ + 1, 0⟩).2).2) = (zEx, 2, (orr ⟨at_ + 1, 0⟩).2.at_) := by
       rw [passP_no hl]
       simp only [failP, if_pos hb]
       exact res_bad (p := ((orr ⟨at_ + 1, 0⟩).1, ⟨(orr ⟨at_ + 1, 0⟩).2.at_, 2⟩)) (by show (2 : Int) ≠ 0; decide)
      rw [he]
      exact xun_par_long l A c first at_ t w hr hlc ht hf0 hf1 h1 h3 k45 k33 c40 hk h64' _ _ _ (Int.le_trans (by omega : first ≤ at_ + 1) hg.1) hg.2 hu rfl _ rfl hsh hl
     ·have he : res ((orr ⟨at_ + 1, 0⟩).1, (passP first (orr ⟨at_ + 1, 0⟩).2).2) = ((orr ⟨at_ + 1, 0⟩).1, 0, (orr ⟨at_ + 1, 0⟩).2.at_ + 1) := by
       rw [passP_yes (by omega)]
       exact res_ok (p := ((orr ⟨at_ + 1, 0⟩).1, ⟨(orr ⟨at_ + 1, 0⟩).2.at_ + 1, (orr ⟨at_ + 1, 0⟩).2.bad⟩)) hb
      rw [he]
      exact xun_par_ok l A c first at_ t w hr hlc ht hf0 hf1 h1 h3 k45 k33 c40 hk h64' _ _ _ (Int.le_trans (by omega : first ≤ at_ + 1) hg.1) hg.2 hu rfl _ rfl hsh (by omega)
    ·have hsf := Bool.eq_false_iff.2 hsh
     rw [if_pos ⟨hb, hsf⟩]
     have he : res (zEx, failP 11 (orr ⟨at_ + 1, 0⟩).2) = (zEx, 11, (orr ⟨at_ + 1, 0⟩).2.at_) := by
      simp only [failP, if_pos hb]
      exact res_bad (p := (zEx, ⟨(orr ⟨at_ + 1, 0⟩).2.at_, 11⟩)) (by show (11 : Int) ≠ 0; decide)
     rw [he]
     exact xun_par_x l A c first at_ t w hr hlc ht hf0 hf1 h1 h3 k45 k33 c40 hk h64' _ _ _ (Int.le_trans (by omega : first ≤ at_ + 1) hg.1) hg.2 hu rfl _ rfl hsf
   ·rw [res_bad hb] at hu
    rw [if_neg (fun h => hb h.1), if_neg hb, res_bad hb]
    exact xun_par_bad l A c first at_ t w hr hlc ht hf0 hf1 h1 h3 k45 k33 c40 hk h64' _ _ _ (Int.le_trans (by omega : first ≤ at_ + 1) hg.1) hg.2 hu hb
 have k40 := Bool.eq_false_iff.2 c40
 have hno : isOpen (tokAt l at_) = false := by rw [ht]; exact k40
 by_cases k2 : t.kind = 2
 ·by_cases h64 : 64 ≤ at_ - first
  ·rw [long_other hnone (.inr (.inl (by rw [ht]; exact k2))) h64]
   exact xun_long_num l A c first at_ t w hr hlc ht hf0 hf1 h1 h3 k45 k33 k40 k2 h64
  ·rw [unS_num (by rw [ht]; exact k2) (by omega), ht]
   exact xun_num l A c first at_ t w hr hlc ht hf0 hf1 h1 h3 k45 k33 k40 k2 (by omega)
 by_cases k1 : t.kind = 1
 ·by_cases h64 : 64 ≤ at_ - first
  ·rw [long_other hnone (.inr (.inr (by rw [ht]; exact k1))) h64]
   exact xun_long_name l A c first at_ t w hr hlc ht hf0 hf1 h1 h3 k45 k33 k40 k1 h64
  ·rw [unS_name (by rw [ht]; exact k1) (by omega), ht]
   exact xun_name l A c first at_ t w hr hlc ht hf0 hf1 h1 h3 k45 k33 k40 k1 (by omega)
 rw [none_fits hnone hno (by rw [ht]; exact k2) (by rw [ht]; exact k1)]
 exact xun_fail l A c first at_ t w hr hlc ht hf0 hf1 h1 h3 k45 k33 k40 k2 k1
set_option maxHeartbeats 4000000 in
set_option maxRecDepth 100000 in
theorem xread_six (l : List Tok) (A : Option Addr) (c : Nat) (first at_ : Int) (w : World) (p : Ex × Int × Int)
  (hu : ∀ W, Below w.heap.size w W → Calls Tryz.prog 132 #[.slice A l.length c, .int .i64 first, .int .i64 at_] W (TakePost W.heap.size p W)) :
  Calls Tryz.prog 122 #[.slice A l.length c, .int .i64 first, .int .i64 at_, .int .i64 6] w (TakePost w.heap.size p w) := by
 obtain ⟨e, f, k⟩ := p
 have HU := Lib.hid hu
 clear hu
 go_enter Tryz.func122, Tryz.ntmps122
 go_wp2_with fail
 obtain ⟨w0, hw0⟩ : ∃ w', w.alloc (.cells #[.int .i64 0, .int .i64 0, .string ⟨#[]⟩, .slice none 0 0] 41 (0, 0)) = w' := ⟨_, rfl⟩
 have hb0 : Below w.heap.size w w0 := hw0 ▸ (Below.refl _ _).alloc (Nat.le_refl _) _
 have hz0 : w0.heap[w.heap.size]? = some (.cells #[.int .i64 0, .int .i64 0, .string ⟨#[]⟩, .slice none 0 0] 41 (0, 0)) := hw0 ▸ heap_alloc_new _ _
 obtain ⟨P, hP⟩ : ∃ P, w.heap.size = P := ⟨_, rfl⟩
 rw [hw0, hP]
 rw [hP] at hz0
 have HPW := Lib.hid hP
 have HB0 := Lib.hid hb0
 have HP0 := Lib.hid hz0
 clear hb0 hz0 hw0 hP
 refine (HU.out w0 HB0.out).mono ?_
 rintro r w1 ⟨B1, d1, rfl, hx1, hb1⟩
 simp only at hx1
 have hlt := blk_lt HP0.out
 have HX1 := Lib.hid (hx1.more (Q := fun q => q ≤ P) (fun q hq => .inl (by show q < w0.heap.size; omega)))
 have HB1 := Lib.hid (HB0.out.trans (hb1.mono HB0.out.size))
 have HP1 := Lib.hid ((hb1.block P hlt).trans HP0.out)
 clear hx1 hb1 hlt
 obtain ⟨⟨z0, z1, z2, z3⟩, g0, g1, g2, g3⟩ := blk4 HP1.out
 go_wp2
 refine bodyPost_ret (v := .tuple #[.agg #[.int .i64 e.op, .int .i64 e.n, .string e.name, .slice B1 e.kids.length d1], .int .i64 f, .int .i64 k]) (by simp [results, Tryz.results122, go_sem, *]) rfl ?_
 refine ⟨B1, d1, rfl, (HX1.out.keep (same_set4 w1 P _ _ _ _) (fun q hq => by simp at hq; subst hq; exact Nat.le_refl _)).more (fun q hq => .inl (by have := HPW.out; show q ≤ P; omega)), ?_⟩
 exact below_set4' HB1.out (by rw [HPW.out]; exact Nat.le_refl _) _ _ _ _
end Go.Proofs.YtgcfjkfipkfijaaGreatDoor
namespace Go.Proofs.YtgcfjkfipkfijaaGreatDoor
open Go Go.RowKit Go.Lib
theorem res_at (p : Ex × St) : (res p).2.2 = p.2.at_ := by unfold res; split <;> rfl
theorem lev_grows {l : List Tok} {first : Int} {un : St → Ex × St} (h : Grows first un) (n : Nat) : Grows first (lev l first un n) := by
 match n with
 | 0 => exact h
 | 1 => exact orOf_grows h
 | 2 => exact rowP_grows (cmpP_grows (rowP_grows (rowP_grows h)))
 | 3 => exact cmpP_grows (rowP_grows (rowP_grows h))
 | 4 => exact rowP_grows (rowP_grows h)
 | 5 => exact rowP_grows h
 | n + 6 => exact h
theorem xread_lines (l : List Tok) (A : Option Addr) (c : Nat) (first b0 : Int) (un : St → Ex × St) (hlc : l.length ≤ c) (hf0 : 0 ≤ first) (hf1 : first ≤ 1152921504606846976) (hb0 : first ≤ b0) (gu : Grows first un)
  (hU : ∀ (k : Int) (W : World), tokK.Row [] W A l → b0 ≤ k → k ≤ first + 64 → Calls Tryz.prog 132 #[.slice A l.length c, .int .i64 first, .int .i64 k] W (TakePost W.heap.size (res (un ⟨k, 0⟩)) W)) :
  ∀ (j n : Nat), n + j = 6 → 1 ≤ n → ∀ (k : Int) (W : World), tokK.Row [] W A l → b0 ≤ k → k ≤ first + 64 →
   Calls Tryz.prog 122 #[.slice A l.length c, .int .i64 first, .int .i64 k, .int .i64 (n : Int)] W (TakePost W.heap.size (res (lev l first un n ⟨k, 0⟩)) W)
 | 0, n, h, h1, k, W, hr, k1, k2 => by
  obtain rfl : n = 6 := by omega
  exact xread_six l A c first k W _ (fun W' hb => hU k W' (hr.keep (Same.of_below hb)) k1 k2)
 | j + 1, n, h, h1, k, W, hr, k1, k2 => by
  have ih := xread_lines l A c first b0 un hlc hf0 hf1 hb0 gu hU j (n + 1) (by omega) (by omega)
  have hL := lev_grows (l := l) gu (n + 1)
  have := xread_line l A c first k n W (fun k => res (lev l first un (n + 1) ⟨k, 0⟩)) hr hlc hf0 hf1 b0 hb0 k1 k2 (by omega) (by omega)
   (fun k q1 q2 => by rw [res_at]; exact hL ⟨k, 0⟩ q2) (fun k W' hr' q1 q2 _ => ih k W' hr' q1 q2)
  rw [rl_lev h1 (by omega) k] at this
  exact this
theorem xunary_all (l : List Tok) (A : Option Addr) (c : Nat) (first : Int) (hlc : l.length ≤ c) (hf0 : 0 ≤ first) (hf1 : first ≤ 1152921504606846976) :
  ∀ (f : Nat) (at_ : Int) (W : World), tokK.Row [] W A l → first ≤ at_ → at_ ≤ first + 64 → 65 ≤ at_ - first + f →
   Calls Tryz.prog 132 #[.slice A l.length c, .int .i64 first, .int .i64 at_] W (TakePost W.heap.size (res (unP l first f ⟨at_, 0⟩)) W)
 | 0, at_, W, hr, h1, h3, hf => absurd hf (by omega)
 | f + 1, at_, W, hr, h1, h3, hf => by
  rw [unP_succ]
  refine xun_any l A c first at_ _ _ W hr hlc hf0 hf1 h1 h3 (unP_grows l first f) (orOf_grows (unP_grows l first f)) (fun h W' hr' => xunary_all l A c first hlc hf0 hf1 f (at_ + 1) W' hr' (by omega) (by omega) (by omega)) (fun h W' hr' => ?_)
  exact xread_lines l A c first (at_ + 1) (unP l first f) hlc hf0 hf1 (by omega) (unP_grows l first f) (fun k W2 hr2 k1 k2 => xunary_all l A c first hlc hf0 hf1 f k W2 hr2 (by omega) k2 (by omega)) 5 1 rfl (by omega) (at_ + 1) W' hr' (Int.le_refl _) (by omega)
theorem lev_one (l : List Tok) (first : Int) (un : St → Ex × St) : lev l first un 1 = orOf l first un := rfl
theorem takeP_res (l : List Tok) (a : Int) : takeP l a = res (lev l a (unP l a 66) 1 ⟨a, 0⟩) := by
 rw [lev_one, takeP]
 generalize orOf l a (unP l a 66) ⟨a, 0⟩ = p
 rfl
theorem takeP_out {l : List Tok} {a : Int} (h : a < 0 ∨ (l.length : Int) ≤ a) : takeP l a = (zEx, 11, a) := by
 have ht : tokAt l a = zTok := by unfold tokAt; rw [if_pos h]
 have h6 : res (lev l a (unP l a 66) 6 ⟨a, 0⟩) = (zEx, 11, a) := by
  show res (unP l a (65 + 1) ⟨a, 0⟩) = _
  rw [unP_succ]
  exact none_fits (isP_not (by rw [show (⟨a, 0⟩ : St).at_ = a from rfl, ht]; decide)) (by rw [ht]; decide) (by rw [ht]; decide) (by rw [ht]; decide)
 have step : ∀ n, 1 ≤ n → n ≤ 5 → res (lev l a (unP l a 66) (n + 1) ⟨a, 0⟩) = (zEx, 11, a) → res (lev l a (unP l a 66) n ⟨a, 0⟩) = (zEx, 11, a) := fun n h1 h5 h => by
  rw [← rl_lev h1 h5 a, h, rlF, if_pos (show (11 : Int) ≠ 0 by decide)]
 rw [takeP_res]
 exact step 1 (by omega) (by omega) (step 2 (by omega) (by omega) (step 3 (by omega) (by omega) (step 4 (by omega) (by omega) (step 5 (by omega) (by omega) h6))))
set_option maxHeartbeats 4000000 in
set_option maxRecDepth 100000 in
theorem xtake_any (l : List Tok) (A : Option Addr) (c : Nat) (a : Int) (w : World) (hr : tokK.Row [] w A l) (hlc : l.length ≤ c) (hl60 : (l.length : Int) ≤ 1152921504606846976) :
  Calls Tryz.prog 110 #[.slice A l.length c, .int .i64 a] w (TakePost w.heap.size (takeP l a) w) := by
 by_cases ha : a < 0
 ·rw [takeP_out (.inl ha)]
  go_enter Tryz.func110, Tryz.ntmps110
  go_wp2
  refine bodyPost_ret (v := .tuple #[.agg #[.int .i64 0, .int .i64 0, .string ⟨#[]⟩, .slice none 0 0], .int .i64 11, .int .i64 a]) (by simp [results, Tryz.results110, go_sem, *]) rfl ?_
  exact ⟨none, 0, rfl, ExF.leaf rfl, (Below.refl _ _).alloc (Nat.le_refl _) _⟩
 have ha' : 0 ≤ a := by omega
 by_cases hl : (l.length : Int) ≤ a
 ·rw [takeP_out (.inr hl)]
  go_enter Tryz.func110, Tryz.ntmps110
  go_wp2
  refine bodyPost_ret (v := .tuple #[.agg #[.int .i64 0, .int .i64 0, .string ⟨#[]⟩, .slice none 0 0], .int .i64 11, .int .i64 a]) (by simp [results, Tryz.results110, go_sem, *]) rfl ?_
  exact ⟨none, 0, rfl, ExF.leaf rfl, (Below.refl _ _).alloc (Nat.le_refl _) _⟩
 have hl' : a < (l.length : Int) := by omega
 have hR : ∀ W, tokK.Row [] W A l → Calls Tryz.prog 122 #[.slice A l.length c, .int .i64 a, .int .i64 a, .int .i64 1] W (TakePost W.heap.size (res (lev l a (unP l a 66) 1 ⟨a, 0⟩)) W) := fun W (h : tokK.Row [] W A l) => xread_lines l A c a a (unP l a 66) hlc ha' (by omega) (Int.le_refl _) (unP_grows l a 66) (fun k W2 hr2 k1 k2 => xunary_all l A c a hlc ha' (by omega) 66 k W2 hr2 k1 k2 (by omega)) 5 1 rfl (by omega) a W h (Int.le_refl _) (by omega)
 rw [takeP_res]
 obtain ⟨⟨e, f, k⟩, hp⟩ : ∃ p, res (lev l a (unP l a 66) 1 ⟨a, 0⟩) = p := ⟨_, rfl⟩
 rw [hp] at hR ⊢
 have RD := Lib.hid hR
 have HR := Lib.hid hr
 clear hR hr hp ha hl
 go_enter Tryz.func110, Tryz.ntmps110
 go_wp2_with fail
 obtain ⟨w0, hw0⟩ : ∃ w', w.alloc (.cells #[.int .i64 0, .int .i64 0, .string ⟨#[]⟩, .slice none 0 0] 41 (0, 0)) = w' := ⟨_, rfl⟩
 have hb0 : Below w.heap.size w w0 := hw0 ▸ (Below.refl _ _).alloc (Nat.le_refl _) _
 have hz0 : w0.heap[w.heap.size]? = some (.cells #[.int .i64 0, .int .i64 0, .string ⟨#[]⟩, .slice none 0 0] 41 (0, 0)) := hw0 ▸ heap_alloc_new _ _
 obtain ⟨P, hP⟩ : ∃ P, w.heap.size = P := ⟨_, rfl⟩
 rw [hw0, hP]
 rw [hP] at hz0
 have HPW := Lib.hid hP
 have HB0 := Lib.hid hb0
 have HP0 := Lib.hid hz0
 clear hb0 hz0 hw0 hP
 refine (RD.out w0 (HR.out.keep (Same.of_below HB0.out))).mono ?_
 rintro r w1 ⟨B1, d1, rfl, hx1, hb1⟩
 simp only at hx1
 have hlt := blk_lt HP0.out
 have HX1 := Lib.hid (hx1.more (Q := fun q => q ≤ P) (fun q hq => .inl (by show q < w0.heap.size; omega)))
 have HB1 := Lib.hid (HB0.out.trans (hb1.mono HB0.out.size))
 have HP1 := Lib.hid ((hb1.block P hlt).trans HP0.out)
 clear hx1 hb1 hlt
 obtain ⟨⟨z0, z1, z2, z3⟩, g0, g1, g2, g3⟩ := blk4 HP1.out
 go_wp2
 refine bodyPost_ret (v := .tuple #[.agg #[.int .i64 e.op, .int .i64 e.n, .string e.name, .slice B1 e.kids.length d1], .int .i64 f, .int .i64 k]) (by simp [results, Tryz.results110, go_sem, *]) rfl ?_
 refine ⟨B1, d1, rfl, (HX1.out.keep (same_set4 w1 P _ _ _ _) (fun q hq => by simp at hq; subst hq; exact Nat.le_refl _)).more (fun q hq => .inl (by have := HPW.out; show q ≤ P; omega)), ?_⟩
 exact below_set4' HB1.out (by rw [HPW.out]; exact Nat.le_refl _) _ _ _ _
end Go.Proofs.YtgcfjkfipkfijaaGreatDoor
