/- The law that brackets round a text say nothing: the walk. -/
import Derived.Test.YtgaiheojlmebaaaDoorH1
import Derived.Test.YtgaiheojlmebaaaDoorG7
namespace Go.Proofs.YtgaiheojlmebaaaDoor
open Go Go.RowKit Go.Lib

set_option maxHeartbeats 8000000 in
set_option maxRecDepth 100000 in
theorem brackets_long (s : ByteArray) (w : World) (hT : Tabs w) (hl : 2000 < s.size) :
    Calls Tryd.prog 8 #[.string s] w fun r w' => r = .returned (.bool true) ∧ Below w.heap.size w w' := by
  have HT := Lib.hid hT
  have hz : (2000 : Int) < s.size := by omega
  clear hT hl
  go_enter Tryd.func8, Tryd.ntmps8
  go_wp2_with fail
  refine (awake_any w HT.out).mono ?_
  rintro r w1 ⟨rfl, hb1⟩
  have H1 := Lib.hid hb1
  clear hb1
  go_wp2_with fail
  go_ret
  exact ⟨rfl, H1.out⟩

/-- What the walk meets in any case. -/
theorem br_size (s : ByteArray) (h : s.size ≤ 2000) : (brS s).size ≤ 9223372036854775806 := by
  rw [← sz_data, brS_data]
  have := sz_data s
  simp [suf]
  omega
set_option maxHeartbeats 8000000 in
set_option maxRecDepth 100000 in
theorem brackets_bad (s : ByteArray) (w : World) (hT : Tabs w) (hl : s.size ≤ 2000) (hf : (parseP s).2.1 ≠ 0) :
    Calls Tryd.prog 8 #[.string s] w fun r w' => r = .returned (.bool true) ∧ Below w.heap.size w w' := by
  have HT := Lib.hid hT
  have hz : (s.size : Int) ≤ 2000 := by omega
  have HP := Lib.hid (fun W hT => parse_any s W hT (by omega))
  have HPB := Lib.hid (fun W hT => parse_any (brS s) W hT (br_size s hl))
  obtain ⟨⟨e, f, at_⟩, hp⟩ : ∃ p, parseP s = p := ⟨_, rfl⟩
  obtain ⟨⟨e2, f2, at2⟩, hp2⟩ : ∃ p, parseP (brS s) = p := ⟨_, rfl⟩
  rw [hp] at HP hf
  rw [hp2] at HPB
  have hfb : (f != 0) = true := bnet hf
  have c1 : ∀ W, (Op.stringOp .add ⟨#[40]⟩ s).run Tryd.prog W = .ok (.string (⟨#[40]⟩ ++ s)) W := fun W => run_string_add_sum (w := W) _ _ (by show 1 + s.size ≤ _; omega)
  have c2 : ∀ W, (Op.stringOp .add (⟨#[40]⟩ ++ s) ⟨#[10, 41]⟩).run Tryd.prog W = .ok (.string (brS s)) W := fun W => run_string_add_sum (w := W) _ _ (by rw [ByteArray.size_append]; show 1 + s.size + 2 ≤ _; omega)
  obtain ⟨q, hq⟩ : ∃ q, brS s = q := ⟨_, rfl⟩
  rw [hq] at HPB c2
  clear hT hl hf hp hp2 hq
  go_enter Tryd.func8, Tryd.ntmps8
  go_wp2_with fail
  refine (awake_any w HT.out).mono ?_
  rintro r w1 ⟨rfl, hb1⟩
  have H1 := Lib.hid (Hold.mk (HT.out.below hb1) hb1)
  clear hb1
  go_wp2_with fail
  refine (HP.out w1 H1.out.tabs).mono ?_
  rintro r w2 ⟨B, d, rfl, hx2, hb2⟩
  have H2 := Lib.hid (H1.out.step hb2)
  clear hx2 hb2
  go_wp2_with fail
  obtain ⟨w3, hw3⟩ : ∃ w', w2.alloc (.cells #[.int .i64 e.op, .int .i64 e.n, .string e.name, .slice B e.kids.length d] 25 (0, 0)) = w' := ⟨_, rfl⟩
  have hb3 : Below w2.heap.size w2 w3 := hw3 ▸ (Below.refl _ _).alloc (Nat.le_refl _) _
  rw [hw3]
  have H3 := Lib.hid (H2.out.step hb3)
  clear hb3 hw3
  refine (HPB.out w3 H3.out.tabs).mono ?_
  rintro r w4 ⟨B2, d2, rfl, hx4, hb4⟩
  have H4 := Lib.hid (H3.out.step hb4)
  clear hx4 hb4
  go_wp2_with fail
  go_ret
  exact ⟨rfl, H4.out.below.alloc H4.out.below.size _⟩

set_option maxHeartbeats 8000000 in
set_option maxRecDepth 100000 in
theorem brackets_many (s : ByteArray) (w : World) (hT : Tabs w) (hl : s.size ≤ 2000) (hf : (parseP s).2.1 = 0) (h63 : 63 < (cutB s).1.length) :
    Calls Tryd.prog 8 #[.string s] w fun r w' => r = .returned (.bool true) ∧ Below w.heap.size w w' := by
  have HT := Lib.hid hT
  have hz : (s.size : Int) ≤ 2000 := by omega
  have hbr := (parse_br hl hf).2 h63
  have HP := Lib.hid (fun W hT => parse_any s W hT (by omega))
  have HPB := Lib.hid (fun W hT => parse_any (brS s) W hT (br_size s hl))
  have HC1 := Lib.hid (fun W h => cut_any s W h (by omega))
  unfold CutPost at HC1
  obtain ⟨⟨e, f, at_⟩, hp⟩ : ∃ p, parseP s = p := ⟨_, rfl⟩
  obtain ⟨⟨e2, f2, at2⟩, hp2⟩ : ∃ p, parseP (brS s) = p := ⟨_, rfl⟩
  rw [hp] at HP hf
  rw [hp2] at HPB hbr
  simp only at hf hbr
  subst hf hbr
  obtain ⟨L, hL⟩ : ∃ L, (cutB s).1.length = L := ⟨_, rfl⟩
  rw [hL] at HC1 h63
  have hlz : (63 : Int) < L := by omega
  have c1 : ∀ W, (Op.stringOp .add ⟨#[40]⟩ s).run Tryd.prog W = .ok (.string (⟨#[40]⟩ ++ s)) W := fun W => run_string_add_sum (w := W) _ _ (by show 1 + s.size ≤ _; omega)
  have c2 : ∀ W, (Op.stringOp .add (⟨#[40]⟩ ++ s) ⟨#[10, 41]⟩).run Tryd.prog W = .ok (.string (brS s)) W := fun W => run_string_add_sum (w := W) _ _ (by rw [ByteArray.size_append]; show 1 + s.size + 2 ≤ _; omega)
  obtain ⟨q, hq⟩ : ∃ q, brS s = q := ⟨_, rfl⟩
  rw [hq] at HPB c2
  clear hT hl hp hp2 hq hL h63
  go_enter Tryd.func8, Tryd.ntmps8
  go_wp2_with fail
  refine (awake_any w HT.out).mono ?_
  rintro r w1 ⟨rfl, hb1⟩
  have H1 := Lib.hid (Hold.mk (HT.out.below hb1) hb1)
  clear hb1
  go_wp2_with fail
  refine (HP.out w1 H1.out.tabs).mono ?_
  rintro r w2 ⟨B, d, rfl, hx2, hb2⟩
  have H2 := Lib.hid (H1.out.step hb2)
  clear hx2 hb2
  go_wp2_with fail
  obtain ⟨w3, hw3⟩ : ∃ w', w2.alloc (.cells #[.int .i64 e.op, .int .i64 e.n, .string e.name, .slice B e.kids.length d] 25 (0, 0)) = w' := ⟨_, rfl⟩
  have hb3 : Below w2.heap.size w2 w3 := hw3 ▸ (Below.refl _ _).alloc (Nat.le_refl _) _
  rw [hw3]
  have H3 := Lib.hid (H2.out.step hb3)
  clear hb3 hw3
  refine (HPB.out w3 H3.out.tabs).mono ?_
  rintro r w4 ⟨B2, d2, rfl, hx4, hb4⟩
  have H4 := Lib.hid (H3.out.step hb4)
  clear hx4 hb4
  go_wp2_with fail
  obtain ⟨w5, hw5⟩ : ∃ w', w4.alloc (.cells #[.int .i64 e2.op, .int .i64 e2.n, .string e2.name, .slice B2 e2.kids.length d2] 25 (0, 0)) = w' := ⟨_, rfl⟩
  have hb5 : Below w4.heap.size w4 w5 := hw5 ▸ (Below.refl _ _).alloc (Nat.le_refl _) _
  rw [hw5]
  have H5 := Lib.hid (H4.out.step hb5)
  clear hb5 hw5
  refine (HC1.out w5 H5.out.tabs).mono ?_
  rintro r w6 ⟨A6, c6, rfl, _, _, hb6⟩
  have H6 := Lib.hid (H5.out.step hb6)
  clear hb6
  go_wp2_with fail
  go_ret
  exact ⟨rfl, H6.out.below⟩

set_option maxHeartbeats 8000000 in
set_option maxRecDepth 100000 in
theorem brackets_good (s : ByteArray) (w : World) (hT : Tabs w) (hl : s.size ≤ 2000) (hf : (parseP s).2.1 = 0) (h63 : (cutB s).1.length ≤ 63) :
    Calls Tryd.prog 8 #[.string s] w fun r w' => r = .returned (.bool true) ∧ Below w.heap.size w w' := by
  have HT := Lib.hid hT
  have hz : (s.size : Int) ≤ 2000 := by omega
  have hbr := (parse_br hl hf).1 h63
  have HP := Lib.hid (fun W hT => parse_any s W hT (by omega))
  have HPB := Lib.hid (fun W hT => parse_any (brS s) W hT (br_size s hl))
  have HC1 := Lib.hid (fun W h => cut_any s W h (by omega))
  unfold CutPost at HC1
  rw [hbr] at HPB
  obtain ⟨⟨e, f, at_⟩, hp⟩ : ∃ p, parseP s = p := ⟨_, rfl⟩
  rw [hp] at HP hf HPB
  simp only at hf HPB
  subst hf
  obtain ⟨L, hL⟩ : ∃ L, (cutB s).1.length = L := ⟨_, rfl⟩
  rw [hL] at HC1 h63
  have hlz : (L : Int) ≤ 63 := by omega
  have c1 : ∀ W, (Op.stringOp .add ⟨#[40]⟩ s).run Tryd.prog W = .ok (.string (⟨#[40]⟩ ++ s)) W := fun W => run_string_add_sum (w := W) _ _ (by show 1 + s.size ≤ _; omega)
  have c2 : ∀ W, (Op.stringOp .add (⟨#[40]⟩ ++ s) ⟨#[10, 41]⟩).run Tryd.prog W = .ok (.string (brS s)) W := fun W => run_string_add_sum (w := W) _ _ (by rw [ByteArray.size_append]; show 1 + s.size + 2 ≤ _; omega)
  obtain ⟨q, hq⟩ : ∃ q, brS s = q := ⟨_, rfl⟩
  rw [hq] at HPB c2
  clear hT hl hp hq hL h63 hbr
  go_enter Tryd.func8, Tryd.ntmps8
  go_wp2_with fail
  refine (awake_any w HT.out).mono ?_
  rintro r w1 ⟨rfl, hb1⟩
  have H1 := Lib.hid (Hold.mk (HT.out.below hb1) hb1)
  clear hb1
  go_wp2_with fail
  refine (HP.out w1 H1.out.tabs).mono ?_
  rintro r w2 ⟨B, d, rfl, hx2, hb2⟩
  have H2 := Lib.hid (H1.out.step hb2)
  have X2 := Lib.hid hx2
  clear hx2 hb2
  go_wp2_with fail
  obtain ⟨w3, hw3⟩ : ∃ w', w2.alloc (.cells #[.int .i64 e.op, .int .i64 e.n, .string e.name, .slice B e.kids.length d] 25 (0, 0)) = w' := ⟨_, rfl⟩
  have hb3 : Below w2.heap.size w2 w3 := hw3 ▸ (Below.refl _ _).alloc (Nat.le_refl _) _
  have hq3 : ExB w3 w2.heap.size e B d := hw3 ▸ heap_alloc_new _ _
  obtain ⟨K, hK⟩ : ∃ K, w2.heap.size = K := ⟨_, rfl⟩
  rw [hw3, hK]
  rw [hK] at hq3
  have H3 := Lib.hid (H2.out.step hb3)
  have X3 := Lib.hid (X2.out.below hb3)
  have Q3 := Lib.hid hq3
  clear hb3 hw3 hq3 hK
  refine (HPB.out w3 H3.out.tabs).mono ?_
  rintro r w4 ⟨B2, d2, rfl, hx4, hb4⟩
  have H4 := Lib.hid (H3.out.step hb4)
  have X4 := Lib.hid (X3.out.below hb4)
  have Y4 := Lib.hid hx4
  have Q4 := Lib.hid (Q3.out.step hb4)
  clear hx4 hb4
  go_wp2_with fail
  obtain ⟨w5, hw5⟩ : ∃ w', w4.alloc (.cells #[.int .i64 e.op, .int .i64 e.n, .string e.name, .slice B2 e.kids.length d2] 25 (0, 0)) = w' := ⟨_, rfl⟩
  have hb5 : Below w4.heap.size w4 w5 := hw5 ▸ (Below.refl _ _).alloc (Nat.le_refl _) _
  have hq5 : ExB w5 w4.heap.size e B2 d2 := hw5 ▸ heap_alloc_new _ _
  obtain ⟨K2, hK2⟩ : ∃ K, w4.heap.size = K := ⟨_, rfl⟩
  rw [hw5, hK2]
  rw [hK2] at hq5
  have H5 := Lib.hid (H4.out.step hb5)
  have X5 := Lib.hid (X4.out.below hb5)
  have Y5 := Lib.hid (Y4.out.below hb5)
  have Q5 := Lib.hid (Q4.out.step hb5)
  have R5 := Lib.hid hq5
  clear hb5 hw5 hq5 hK2
  refine (HC1.out w5 H5.out.tabs).mono ?_
  rintro r w6 ⟨A6, c6, rfl, _, _, hb6⟩
  have H6 := Lib.hid (H5.out.step hb6)
  have X6 := Lib.hid (X5.out.below hb6)
  have Y6 := Lib.hid (Y5.out.below hb6)
  have Q6 := Lib.hid (Q5.out.step hb6)
  have R6 := Lib.hid (R5.out.step hb6)
  obtain ⟨x0, x1, x2, x3⟩ := Q6.out.cells
  obtain ⟨y0, y1, y2, y3⟩ := R6.out.cells
  clear hb6
  go_wp2_with fail
  refine (same_eq e B2 d2 B d w6 Y6.out.row Y6.out.1 X6.out.row X6.out.1).mono ?_
  rintro r w7 ⟨rfl, hb7⟩
  have H7 := Lib.hid (H6.out.step hb7)
  clear hb7 x0 x1 x2 x3 y0 y1 y2 y3
  go_wp2_with fail
  go_ret
  exact ⟨rfl, H7.out.below⟩
theorem brackets_any (s : ByteArray) (w : World) (hT : Tabs w) (_hs : s.size ≤ maxLen) :
    Calls Tryd.prog 8 #[.string s] w fun r w' => r = .returned (.bool true) ∧ Below w.heap.size w w' := by
  by_cases h1 : 2000 < s.size
  · exact brackets_long s w hT h1
  · by_cases h2 : (parseP s).2.1 = 0
    · by_cases h3 : 63 < (cutB s).1.length
      · exact brackets_many s w hT (by omega) h2 h3
      · exact brackets_good s w hT (by omega) h2 (by omega)
    · exact brackets_bad s w hT (by omega) h2
end Go.Proofs.YtgaiheojlmebaaaDoor
