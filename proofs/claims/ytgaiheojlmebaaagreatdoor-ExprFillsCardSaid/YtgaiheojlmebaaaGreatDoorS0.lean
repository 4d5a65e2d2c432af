/- Walks: the reference's count of the tokens that are left; May; a name's cell. -/
import Derived.Test.YtgaiheojlmebaaaGreatDoorS1
import Derived.Test.YtgaiheojlmebaaaGreatDoorS7
import Derived.Test.YtgaiheojlmebaaaGreatDoorF3
namespace Go.Proofs.YtgaiheojlmebaaaGreatDoor
open Go Go.RowKit Go.Lib

theorem eLine_le (o : Int) : eLine o ≤ 6 := by
  unfold eLine
  repeat' split
  all_goals omega
set_option maxHeartbeats 4000000 in
set_option maxRecDepth 100000 in
theorem xwrapped_nat (e : Ex) (A : Option Addr) (c i : Nat) (w : World) (hr : exK.Row [] w A e.kids) (hi : i < e.kids.length) (hlc : e.kids.length ≤ c) :
    Calls Tryz.prog 39 #[exV e A c, .int .i64 i] w fun r w' => r = .returned (.bool (eWrapped e.op e.kids[i].op i)) ∧ Below w.heap.size w w' := by
  obtain ⟨ad, A', c', hA, h0, h1, h2, h3, _, _, _⟩ := ex_at hr i hi
  subst hA
  obtain ⟨o1, ho1⟩ : ∃ o, e.op = o := ⟨_, rfl⟩
  obtain ⟨o2, ho2⟩ : ∃ o, e.kids[i].op = o := ⟨_, rfl⟩
  obtain ⟨L, hL⟩ : ∃ L, e.kids.length = L := ⟨_, rfl⟩
  have HX : Hid (eWrapped o1 o2 i = (decide (eLine o2 < eLine o1) || (eLine o2 == eLine o1 && decide (eLine o1 < 6) && ((i : Int) == 1 || eLine o1 == 3)))) := rfl
  unfold exV
  rw [ho2] at h0
  rw [ho1, ho2, hL]
  rw [hL] at hi hlc
  have hlt := World.block_lt_of_cell? w _ h0
  have hz : (i : Int) < L := by omega
  have hz0 : (0 : Int) ≤ i := by omega
  have hlcz : (L : Int) ≤ c := by omega
  have hle := eLine_le o1
  have HL1 := Lib.hid (fun W => xline_any o1 W)
  have HL2 := Lib.hid (fun W => xline_any o2 W)
  generalize eLine o1 = l1 at HX HL1 hle
  generalize eLine o2 = l2 at HX HL2
  have hw : (l2 < l1 ∧ eWrapped o1 o2 i = true) ∨ (l1 ≤ l2 ∧ (l2 == l1) = false ∧ eWrapped o1 o2 i = false) ∨ (l1 ≤ l2 ∧ (l2 == l1) = true ∧ (l1 != 6) = false ∧ eWrapped o1 o2 i = false) ∨
      (l1 ≤ l2 ∧ (l2 == l1) = true ∧ (l1 != 6) = true ∧ ((i : Int) == 1) = true ∧ eWrapped o1 o2 i = true) ∨ (l1 ≤ l2 ∧ (l2 == l1) = true ∧ (l1 != 6) = true ∧ ((i : Int) == 1) = false ∧ eWrapped o1 o2 i = (l1 == 3)) := by
    rw [HX.out]
    by_cases h1 : l2 < l1
    · exact .inl ⟨h1, by rw [decide_eq_true h1]; rfl⟩
    · rw [decide_eq_false h1]
      by_cases h2 : l2 = l1
      · subst h2
        have hb : (l2 == l2) = true := beq_iff_eq.2 rfl
        rw [hb]
        by_cases h3 : l2 = 6
        · exact .inr (.inr (.inl ⟨Int.le_refl _, rfl, bnef h3, by rw [decide_eq_false (by omega)]; rfl⟩))
        · rw [decide_eq_true (show l2 < 6 by omega)]
          by_cases h4 : (i : Int) = 1
          · exact .inr (.inr (.inr (.inl ⟨Int.le_refl _, rfl, bnet h3, beq_iff_eq.2 h4, by rw [beq_iff_eq.2 h4]; rfl⟩)))
          · exact .inr (.inr (.inr (.inr ⟨Int.le_refl _, rfl, bnet h3, beqf h4, by rw [beqf h4]; rfl⟩)))
      · rw [beqf h2]
        exact .inr (.inl ⟨by omega, rfl, rfl⟩)
  clear h1 h2 h3 hr ho1 ho2 hL HX hle
  rcases hw with ⟨h1, h2⟩ | ⟨h1, h3, h2⟩ | ⟨h1, h3, h4, h2⟩ | ⟨h1, h3, h4, h5, h2⟩ | ⟨h1, h3, h4, h5, h2⟩
  all_goals
    have HX := Lib.hid h2
    clear h2
    go_enter Tryz.func39, Tryz.ntmps39
    go_wp2_with fail
    refine (HL1.out _).mono ?_
    rintro r w1 ⟨rfl, rfl⟩
    go_wp2_with fail
    refine (HL2.out _).mono ?_
    rintro r w2 ⟨rfl, rfl⟩
    go_wp2_with fail
    go_ret
    exact ⟨ret_bool HX.out.symm, (Below.refl _ _).alloc (Nat.le_refl _) _⟩

theorem xLeft_leaf {o n : Int} {nm : ByteArray} {ks : List Ex} {most : Int} (hm : 1 ≤ most) (h : o = 0 ∨ o = 1) :
    xLeft (.mk o n nm ks) most = if 0 < ks.length ∨ o = 0 ∧ (n < 0 ∨ nm.size ≠ 0) ∨ o = 1 ∧ (n ≠ 0 ∨ nameB nm = false) then -1 else most - 1 := by
  rw [xLeft, if_neg (show ¬ (most < 1 ∨ o < 0 ∨ 16 < o) by omega), if_pos h]
theorem xLeft_node {o n : Int} {nm : ByteArray} {ks : List Ex} {most : Int} (hm : 1 ≤ most) (h2 : 2 ≤ o) (h16 : o ≤ 16) :
    xLeft (.mk o n nm ks) most = if ks.length ≠ eParts o ∨ n ≠ 0 ∨ nm.size ≠ 0 then -1 else xLefts o ks 0 (most - 1) := by
  rw [xLeft, if_neg (show ¬ (most < 1 ∨ o < 0 ∨ 16 < o) by omega), if_neg (show ¬ (o = 0 ∨ o = 1) by omega)]

set_option maxHeartbeats 4000000 in
set_option maxRecDepth 100000 in
theorem xleft_out (o n : Int) (nm : ByteArray) (L : Nat) (A : Option Addr) (c : Nat) (most : Int) (w : World) (h : most < 1 ∨ o < 0 ∨ 16 < o) :
    Calls Tryz.prog 26 #[.agg #[.int .i64 o, .int .i64 n, .string nm, .slice A L c], .int .i64 most] w fun r w' => r = .returned (.int .i64 (-1)) ∧ Below w.heap.size w w' := by
  have h3 : most < 1 ∨ (1 ≤ most ∧ o < 0) ∨ (1 ≤ most ∧ 0 ≤ o ∧ 16 < o) := by omega
  clear h
  rcases h3 with h | ⟨h, h2⟩ | ⟨h, h2, h3⟩
  all_goals
    go_enter Tryz.func26, Tryz.ntmps26
    go_wp2_with fail
    go_ret
    exact ⟨rfl, (Below.refl _ _).alloc (Nat.le_refl _) _⟩

set_option maxHeartbeats 8000000 in
set_option maxRecDepth 100000 in
theorem xleft_leaf (o n : Int) (nm : ByteArray) (ks : List Ex) (A : Option Addr) (c : Nat) (most : Int) (w : World) (hm : 1 ≤ most) (hm2 : most ≤ 64) (hop : o = 0 ∨ o = 1) (hnm : nm.size ≤ 200) (hks : ks.length ≤ 9223372036854775807) :
    Calls Tryz.prog 26 #[.agg #[.int .i64 o, .int .i64 n, .string nm, .slice A ks.length c], .int .i64 most] w fun r w' => r = .returned (.int .i64 (xLeft (.mk o n nm ks) most)) ∧ Below w.heap.size w w' := by
  have hX := xLeft_leaf (o := o) (n := n) (nm := nm) (ks := ks) hm hop
  obtain ⟨L, hL⟩ : ∃ L, ks.length = L := ⟨_, rfl⟩
  rw [hL] at hX hks ⊢
  rw [hX]
  have HN := Lib.hid (fun W => xname_any nm W (by omega))
  obtain ⟨V, hV⟩ : ∃ V, nameB nm = V := ⟨_, rfl⟩
  rw [hV] at HN ⊢
  have hLz : (L : Int) ≤ 9223372036854775807 := by omega
  clear hX hL hV
  obtain ⟨w0, hw0⟩ : ∃ w', w.alloc (.cells #[.int .i64 o, .int .i64 n, .string nm, .slice A L c] 24 (0, 0)) = w' := ⟨_, rfl⟩
  have hal : Below w.heap.size w w0 := hw0 ▸ (Below.refl _ _).alloc (Nat.le_refl _) _
  have hq : w0.heap[w.heap.size]? = some (.cells #[.int .i64 o, .int .i64 n, .string nm, .slice A L c] 24 (0, 0)) := hw0 ▸ heap_alloc_new _ _
  have HAL := Lib.hid hal
  have HQ := Lib.hid hq
  have HW0 := Lib.hid hw0
  obtain ⟨⟨x0, x1, x2, x3⟩, _⟩ := blk4' hq
  have FIN : ∀ (b : Bool) (P : Prop) [Decidable P], (b = true ↔ P) → (if P then (-1 : Int) else most - 1) = if b then -1 else most - 1 := fun b P _ h => by
    by_cases hp : P
    · rw [if_pos hp, h.2 hp, if_pos rfl]
    · cases b
      · rw [if_neg hp]; rfl
      · exact absurd (h.1 rfl) hp
  have HF := Lib.hid FIN
  clear hal hq hw0 FIN
  have hwhy : (((L : Int) != 0) = true) ∨ (((L : Int) != 0) = false ∧ o = 0 ∧ n < 0) ∨ (((L : Int) != 0) = false ∧ o = 0 ∧ 0 ≤ n ∧ nm.size ≠ 0) ∨ (((L : Int) != 0) = false ∧ o = 0 ∧ 0 ≤ n ∧ nm.size = 0) ∨
      (((L : Int) != 0) = false ∧ o = 1 ∧ V = false) ∨ (((L : Int) != 0) = false ∧ o = 1 ∧ V = true ∧ (n != 0) = true) ∨ (((L : Int) != 0) = false ∧ o = 1 ∧ V = true ∧ n = 0) := by
    by_cases hl : L = 0
    · have hlb : ((L : Int) != 0) = false := bnef (by omega)
      rcases hop with rfl | rfl
      · by_cases hn : n < 0
        · exact .inr (.inl ⟨hlb, rfl, hn⟩)
        · by_cases hs : nm.size = 0
          · exact .inr (.inr (.inr (.inl ⟨hlb, rfl, by omega, hs⟩)))
          · exact .inr (.inr (.inl ⟨hlb, rfl, by omega, hs⟩))
      · cases V
        · exact .inr (.inr (.inr (.inr (.inl ⟨hlb, rfl, rfl⟩))))
        · by_cases hn : n = 0
          · exact .inr (.inr (.inr (.inr (.inr (.inr ⟨hlb, rfl, rfl, hn⟩)))))
          · exact .inr (.inr (.inr (.inr (.inr (.inl ⟨hlb, rfl, rfl, bnet hn⟩)))))
    · exact .inl (bnet (by omega))
  rcases hwhy with h | ⟨h, rfl, h2⟩ | ⟨h, rfl, h2, h3⟩ | ⟨h, rfl, h2, h3⟩ | ⟨h, rfl, rfl⟩ | ⟨h, rfl, rfl, h2⟩ | ⟨h, rfl, rfl, rfl⟩
  · have HP : Hid (0 < L) := Lib.hid (by rw [bne_iff_ne] at h; omega)
    rw [HF.out true _ ⟨fun _ => .inl HP.out, fun _ => rfl⟩, if_pos rfl]
    rcases hop with rfl | rfl
    all_goals
      go_enter Tryz.func26, Tryz.ntmps26
      go_wp2_with fail
      rw [HW0.out]
      refine (HN.out _).mono ?_
      rintro r w1 ⟨rfl, hb1⟩
      have HB1 := Lib.hid (HAL.out.trans (hb1.mono HAL.out.size))
      have hq1 := (hb1.block _ (blk_lt HQ.out)).trans HQ.out
      clear x0 x1 x2 x3 hb1
      obtain ⟨⟨x0, x1, x2, x3⟩, _⟩ := blk4' hq1
      clear hq1
      go_wp2_with fail
      go_ret
      exact ⟨rfl, HB1.out⟩
  · have HP : Hid (n < 0) := Lib.hid h2
    rw [HF.out true _ ⟨fun _ => .inr (.inl ⟨rfl, .inl HP.out⟩), fun _ => rfl⟩, if_pos rfl]
    go_enter Tryz.func26, Tryz.ntmps26
    go_wp2_with fail
    rw [HW0.out]
    refine (HN.out _).mono ?_
    rintro r w1 ⟨rfl, hb1⟩
    have HB1 := Lib.hid (HAL.out.trans (hb1.mono HAL.out.size))
    have hq1 := (hb1.block _ (blk_lt HQ.out)).trans HQ.out
    clear x0 x1 x2 x3 hb1
    obtain ⟨⟨x0, x1, x2, x3⟩, _⟩ := blk4' hq1
    clear hq1
    go_wp2_with fail
    go_ret
    exact ⟨rfl, HB1.out⟩
  · have HP : Hid (nm.size ≠ 0) := Lib.hid h3
    rw [HF.out true _ ⟨fun _ => .inr (.inl ⟨rfl, .inr HP.out⟩), fun _ => rfl⟩, if_pos rfl]
    have h4 := isEmpty_of h3
    clear h3
    go_enter Tryz.func26, Tryz.ntmps26
    go_wp2_with fail
    rw [HW0.out]
    refine (HN.out _).mono ?_
    rintro r w1 ⟨rfl, hb1⟩
    have HB1 := Lib.hid (HAL.out.trans (hb1.mono HAL.out.size))
    have hq1 := (hb1.block _ (blk_lt HQ.out)).trans HQ.out
    clear x0 x1 x2 x3 hb1
    obtain ⟨⟨x0, x1, x2, x3⟩, _⟩ := blk4' hq1
    clear hq1
    go_wp2_with fail
    go_ret
    exact ⟨rfl, HB1.out⟩
  · have HP : Hid (¬ (0 < L ∨ (0 : Int) = 0 ∧ (n < 0 ∨ nm.size ≠ 0) ∨ (0 : Int) = 1 ∧ (n ≠ 0 ∨ V = false))) := Lib.hid (by
      rw [bne_eq_false_iff_eq] at h
      rintro (e | ⟨_, e | e⟩ | ⟨e, _⟩)
      · omega
      · omega
      · exact e h3
      · cases e)
    rw [HF.out false _ ⟨fun e => (by cases e), fun e => absurd e HP.out⟩, if_neg (by decide)]
    have h4 := isEmpty_of' h3
    clear h3
    go_enter Tryz.func26, Tryz.ntmps26
    go_wp2_with fail
    rw [HW0.out]
    refine (HN.out _).mono ?_
    rintro r w1 ⟨rfl, hb1⟩
    have HB1 := Lib.hid (HAL.out.trans (hb1.mono HAL.out.size))
    have hq1 := (hb1.block _ (blk_lt HQ.out)).trans HQ.out
    clear x0 x1 x2 x3 hb1
    obtain ⟨⟨x0, x1, x2, x3⟩, _⟩ := blk4' hq1
    clear hq1
    go_wp2_with fail
    go_ret
    exact ⟨rfl, HB1.out⟩
  · rw [HF.out true _ ⟨fun _ => .inr (.inr ⟨rfl, .inr rfl⟩), fun _ => rfl⟩, if_pos rfl]
    go_enter Tryz.func26, Tryz.ntmps26
    go_wp2_with fail
    rw [HW0.out]
    refine (HN.out _).mono ?_
    rintro r w1 ⟨rfl, hb1⟩
    have HB1 := Lib.hid (HAL.out.trans (hb1.mono HAL.out.size))
    have hq1 := (hb1.block _ (blk_lt HQ.out)).trans HQ.out
    clear x0 x1 x2 x3 hb1
    obtain ⟨⟨x0, x1, x2, x3⟩, _⟩ := blk4' hq1
    clear hq1
    go_wp2_with fail
    go_ret
    exact ⟨rfl, HB1.out⟩
  · have HP : Hid (n ≠ 0) := Lib.hid (bne_iff_ne.1 h2)
    rw [HF.out true _ ⟨fun _ => .inr (.inr ⟨rfl, .inl HP.out⟩), fun _ => rfl⟩, if_pos rfl]
    go_enter Tryz.func26, Tryz.ntmps26
    go_wp2_with fail
    rw [HW0.out]
    refine (HN.out _).mono ?_
    rintro r w1 ⟨rfl, hb1⟩
    have HB1 := Lib.hid (HAL.out.trans (hb1.mono HAL.out.size))
    have hq1 := (hb1.block _ (blk_lt HQ.out)).trans HQ.out
    clear x0 x1 x2 x3 hb1
    obtain ⟨⟨x0, x1, x2, x3⟩, _⟩ := blk4' hq1
    clear hq1
    go_wp2_with fail
    go_ret
    exact ⟨rfl, HB1.out⟩
  · have HP : Hid (¬ (0 < L ∨ (1 : Int) = 0 ∧ ((0 : Int) < 0 ∨ nm.size ≠ 0) ∨ (1 : Int) = 1 ∧ ((0 : Int) ≠ 0 ∨ true = false))) := Lib.hid (by
      rw [bne_eq_false_iff_eq] at h
      rintro (e | ⟨e, _⟩ | ⟨_, e | e⟩)
      · omega
      · cases e
      · exact e rfl
      · cases e)
    rw [HF.out false _ ⟨fun e => (by cases e), fun e => absurd e HP.out⟩, if_neg (by decide)]
    go_enter Tryz.func26, Tryz.ntmps26
    go_wp2_with fail
    rw [HW0.out]
    refine (HN.out _).mono ?_
    rintro r w1 ⟨rfl, hb1⟩
    have HB1 := Lib.hid (HAL.out.trans (hb1.mono HAL.out.size))
    have hq1 := (hb1.block _ (blk_lt HQ.out)).trans HQ.out
    clear x0 x1 x2 x3 hb1
    obtain ⟨⟨x0, x1, x2, x3⟩, _⟩ := blk4' hq1
    clear hq1
    go_wp2_with fail
    go_ret
    exact ⟨rfl, HB1.out⟩

set_option maxHeartbeats 8000000 in
set_option maxRecDepth 100000 in
theorem xleft_shape (o n : Int) (nm : ByteArray) (ks : List Ex) (A : Option Addr) (c : Nat) (most : Int) (w : World) (hm : 1 ≤ most) (h2 : 2 ≤ o) (h16 : o ≤ 16) (hks : ks.length ≤ 9223372036854775807) (hbad : ks.length ≠ eParts o ∨ n ≠ 0 ∨ nm.size ≠ 0) :
    Calls Tryz.prog 26 #[.agg #[.int .i64 o, .int .i64 n, .string nm, .slice A ks.length c], .int .i64 most] w fun r w' => r = .returned (.int .i64 (-1)) ∧ Below w.heap.size w w' := by
  obtain ⟨L, hL⟩ : ∃ L, ks.length = L := ⟨_, rfl⟩
  rw [hL] at hks hbad ⊢
  obtain ⟨P, hP⟩ : ∃ P : Int, (eParts o : Int) = P := ⟨_, rfl⟩
  have hc : ((o == 2) = true ∧ P = 1) ∨ ((o == 2) = false ∧ (o == 3) = true ∧ P = 1) ∨ ((o == 2) = false ∧ (o == 3) = false ∧ P = 2) := by
    unfold eParts at hP
    by_cases h2 : o = 2
    · exact .inl ⟨beq_iff_eq.2 h2, by rw [if_pos (.inl h2)] at hP; omega⟩
    · by_cases h3 : o = 3
      · exact .inr (.inl ⟨beqf h2, beq_iff_eq.2 h3, by rw [if_pos (.inr h3)] at hP; omega⟩)
      · exact .inr (.inr ⟨beqf h2, beqf h3, by rw [if_neg (by omega)] at hP; omega⟩)
  have hw : ((L : Int) != P) = true ∨ (((L : Int) != P) = false ∧ (n != 0) = true) ∨ (((L : Int) != P) = false ∧ (n != 0) = false ∧ nm.toList.isEmpty = false) := by
    by_cases e : (L : Int) = P
    · by_cases e2 : n = 0
      · exact .inr (.inr ⟨bnef e, bnef e2, isEmpty_of (by rcases hbad with h | h | h; exact absurd (by omega) h; exact absurd e2 h; exact h)⟩)
      · exact .inr (.inl ⟨bnef e, bnet e2⟩)
    · exact .inl (bnet e)
  have b0 : (o == 0) = false := beqf (by omega)
  have b1 : (o == 1) = false := beqf (by omega)
  have g1 : 0 ≤ o := by omega
  have hLz : (L : Int) ≤ 9223372036854775807 := by omega
  clear hL hP hbad h2
  rcases hc with ⟨b2, rfl⟩ | ⟨b2, b3, rfl⟩ | ⟨b2, b3, rfl⟩
  all_goals
    rcases hw with h1 | ⟨h1, h2⟩ | ⟨h1, h2, h3⟩
    all_goals
      go_enter Tryz.func26, Tryz.ntmps26
      go_wp2_with fail
      go_ret
      exact ⟨rfl, (Below.refl _ _).alloc (Nat.le_refl _) _⟩

set_option maxHeartbeats 8000000 in
set_option maxRecDepth 100000 in
theorem xleft_node (o n : Int) (nm : ByteArray) (ks : List Ex) (A : Option Addr) (c : Nat) (most : Int) (w : World) (hm : 1 ≤ most) (hm2 : most ≤ 64) (h2 : 2 ≤ o) (h16 : o ≤ 16) (hlen : ks.length = eParts o) (hn : n = 0) (hs : nm.size = 0)
    (hr : exK.Row [] w A ks) (hlc : ks.length ≤ c)
    (ih : ∀ (j : Nat) (hj : j < ks.length) (A' : Option Addr) (c' : Nat) (m : Int) (W : World), -2 ≤ m → m ≤ 64 → exK.Row [] W A' ks[j].kids → ks[j].kids.length ≤ c' →
      Calls Tryz.prog 26 #[exV ks[j] A' c', .int .i64 m] W fun r w' => r = .returned (.int .i64 (xLeft ks[j] m)) ∧ Below W.heap.size W w') :
    Calls Tryz.prog 26 #[.agg #[.int .i64 o, .int .i64 n, .string nm, .slice A ks.length c], .int .i64 most] w fun r w' => r = .returned (.int .i64 (xLefts o ks 0 (most - 1))) ∧ Below w.heap.size w w' := by
  subst hn
  obtain ⟨P, hP⟩ : ∃ P : Int, (eParts o : Int) = P := ⟨_, rfl⟩
  have hlz : (ks.length : Int) = P := by rw [← hP]; omega
  have hp1 : 1 ≤ ks.length := by
    have : eParts o = 1 ∨ eParts o = 2 := by unfold eParts; split <;> simp
    omega
  have hc : ((o == 2) = true ∧ P = 1) ∨ ((o == 2) = false ∧ (o == 3) = true ∧ P = 1) ∨ ((o == 2) = false ∧ (o == 3) = false ∧ P = 2) := by
    unfold eParts at hP
    by_cases h2 : o = 2
    · exact .inl ⟨beq_iff_eq.2 h2, by rw [if_pos (.inl h2)] at hP; omega⟩
    · by_cases h3 : o = 3
      · exact .inr (.inl ⟨beqf h2, beq_iff_eq.2 h3, by rw [if_pos (.inr h3)] at hP; omega⟩)
      · exact .inr (.inr ⟨beqf h2, beqf h3, by rw [if_neg (by omega)] at hP; omega⟩)
  have b0 : (o == 0) = false := beqf (by omega)
  have b1 : (o == 1) = false := beqf (by omega)
  have g1 : 0 ≤ o := by omega
  have g4 : nm.toList.isEmpty = true := isEmpty_of' hs
  have g5 : ((ks.length : Int) != P) = false := bnef hlz
  have HIH := Lib.hid ih
  obtain ⟨ad, rfl⟩ : ∃ ad, A = some ad := by
    obtain ⟨ad, e, _⟩ := hr.2 hp1
    exact ⟨ad, e⟩
  have HW : Hid (∀ (W : World) (i : Nat), exK.Row [] W (some ad) ks → (h : i < ks.length) → Calls Tryz.prog 39 #[.agg #[.int .i64 o, .int .i64 0, .string nm, .slice (some ad) ks.length c], .int .i64 i] W fun r w' => r = .returned (.bool (eWrapped o ks[i].op i)) ∧ Below W.heap.size W w') :=
    Lib.hid (fun W i hr h => xwrapped_nat (.mk o 0 nm ks) (some ad) c i W hr h hlc)
  have HROW := Lib.hid hr
  obtain ⟨ANS, hANS⟩ : ∃ ANS, xLefts o ks 0 (most - 1) = ANS := ⟨_, rfl⟩
  rw [hANS]
  have HANS := Lib.hid hANS
  have hlcz : (ks.length : Int) ≤ c := by omega
  have hlen2 : (ks.length : Int) ≤ 2 := by omega
  clear ih hP hlen hr hANS h2 hs
  rcases hc with ⟨b2, rfl⟩ | ⟨b2, b3, rfl⟩ | ⟨b2, b3, rfl⟩
  all_goals
    go_enter Tryz.func26, Tryz.ntmps26
    go_wp2_with fail
    go_loopg [1, 7] (ks.length + 1) (fun k s1 s7 w' => ∃ (j : Nat) (m : Int), s7 = .int .i64 j ∧ s1 = .int .i64 m ∧ j ≤ ks.length ∧ ks.length - j < k ∧ -2 ≤ m ∧ m ≤ 64 ∧
      w'.heap[w.heap.size]? = some (.cells #[.int .i64 o, .int .i64 0, .string nm, .slice (some ad) ks.length c] 24 (0, 0)) ∧ Below w.heap.size w w' ∧ xLefts o (ks.drop j) j m = ANS)
    case atStart => exact ⟨0, _, rfl, rfl, by omega, by omega, by omega, by omega, heap_alloc_new _ _, (Below.refl _ _).alloc (Nat.le_refl _) _, HANS.out⟩
    case round =>
      obtain ⟨j, m, rfl, rfl, hj, hjk, hm3, hm4, hbx, hbl, hans⟩ := hrel
      obtain ⟨gk, rfl⟩ : ∃ k, gk = k + 1 := ⟨gk - 1, by omega⟩
      have HBX := Lib.hid hbx
      have HBL := Lib.hid hbl
      have HA := Lib.hid hans
      clear hans
      by_cases hlt : j < ks.length
      · have hltz : (j : Int) < ks.length := by omega
        have hltp := hltz
        rw [hlz] at hltp
        have hrow : exK.Row [] wr (some ad) ks := HROW.out.keep (Same.of_below hbl)
        obtain ⟨A', c', x0, x1, x2, x3, hlc', hrow', _⟩ := ex_some hrow j hlt
        have HROWR := Lib.hid hrow
        have HKID := Lib.hid (HIH.out j hlt A' c' m wr hm3 hm4 hrow' hlc')
        obtain ⟨t, ht⟩ : ∃ t, xLeft ks[j] m = t := ⟨_, rfl⟩
        have ht1 : t ≤ 64 := by
          rw [← ht]
          by_cases e : m < 1
          · rw [xLeft_low _ e]; decide
          · have := (xLeft_le (SizeOf.sizeOf ks[j] + 1)).1 ks[j] (by omega) m (by omega); omega
        have ht2 : -2 ≤ t := by rw [← ht]; exact (xLeft_ge (SizeOf.sizeOf ks[j] + 1)).1 ks[j] (by omega) m
        rw [ht] at HKID
        obtain ⟨b, hb⟩ : ∃ b, eWrapped o ks[j].op j = b := ⟨_, rfl⟩
        have HWR := Lib.hid (fun W h => HW.out W j h hlt)
        have h := HA.out
        rw [drop_cons ks j hlt, xLefts_cons, ht] at h
        rw [hb] at h HWR
        have HE := Lib.hid h
        have hadlt := World.block_lt_of_cell? wr _ x0
        obtain ⟨⟨z0, z1, z2, z3⟩, _⟩ := blk4' hbx
        clear h ht hb hrow hrow' hbx hbl
        go_wp2_with fail
        refine HKID.out.mono ?_
        rintro r w2 ⟨rfl, hb2⟩
        have hbx2 := (hb2.block _ (blk_lt HBX.out)).trans HBX.out
        have HBX2 := Lib.hid hbx2
        have HBL2 := Lib.hid (HBL.out.trans (hb2.mono HBL.out.size))
        have HROW2 := Lib.hid (HROWR.out.keep (Same.of_below hb2))
        clear z0 z1 z2 z3 hb2
        obtain ⟨⟨z0, z1, z2, z3⟩, _⟩ := blk4' hbx2
        clear hbx2
        by_cases htn : t < 0
        · have h := HE.out
          rw [if_pos htn] at h
          have HE2 := Lib.hid h
          clear h
          go_wp2_with fail
          go_ret
          exact ⟨ret_int HE2.out, HBL2.out⟩
        · have htn' : 0 ≤ t := by omega
          have h := HE.out
          rw [if_neg htn] at h
          have HE2 := Lib.hid h
          clear h htn
          go_wp2_with fail
          refine (HWR.out _ HROW2.out).mono ?_
          rintro r w3 ⟨rfl, hb3⟩
          have HBX3 := Lib.hid ((hb3.block _ (blk_lt HBX2.out)).trans HBX2.out)
          have HBL3 := Lib.hid (HBL2.out.trans (hb3.mono HBL2.out.size))
          clear z0 z1 z2 z3 hb3
          cases b
          · go_wp2_with fail
            go_roundg gk
            case measure => omega
            case rel => exact ⟨j + 1, t, by go_num, rfl, by omega, by omega, by omega, by omega, HBX3.out, HBL3.out, by have h := HE2.out; simpa using h⟩
          · go_wp2_with fail
            go_roundg gk
            case measure => omega
            case rel => exact ⟨j + 1, t - 2, by go_num, by go_num, by omega, by omega, by omega, by omega, HBX3.out, HBL3.out, by have h := HE2.out; simpa using h⟩
      · have hge : (ks.length : Int) ≤ j := by omega
        have hgep := hge
        rw [hlz] at hgep
        have h := HA.out
        rw [List.drop_of_length_le (by omega), xLefts_nil] at h
        have HE := Lib.hid h
        clear h hbx hbl
        go_wp2_with fail
        go_ret
        exact ⟨ret_int HE.out, HBL.out⟩

theorem xleft_any (N : Nat) : ∀ (e : Ex) (A : Option Addr) (c : Nat) (most : Int) (w : World), SizeOf.sizeOf e < N → exK.Row [] w A e.kids → e.kids.length ≤ c → ExN e → -2 ≤ most → most ≤ 64 →
    Calls Tryz.prog 26 #[exV e A c, .int .i64 most] w fun r w' => r = .returned (.int .i64 (xLeft e most)) ∧ Below w.heap.size w w' := by
  induction N with
  | zero => intro e A c most w h; omega
  | succ N ih =>
    intro e A c most w hN hr hlc hk h0 hm
    obtain ⟨o, n, nm, ks⟩ := e
    have hks : ks.length ≤ 9223372036854775807 := hr.1
    by_cases hout : most < 1 ∨ o < 0 ∨ 16 < o
    · rw [xLeft, if_pos hout]
      exact xleft_out o n nm ks.length A c most w hout
    · by_cases hop : o = 0 ∨ o = 1
      · exact xleft_leaf o n nm ks A c most w (by omega) hm hop hk.name hks
      · rw [xLeft_node (by omega) (by omega) (by omega)]
        by_cases hbad : ks.length ≠ eParts o ∨ n ≠ 0 ∨ nm.size ≠ 0
        · rw [if_pos hbad]
          exact xleft_shape o n nm ks A c most w (by omega) (by omega) (by omega) hks hbad
        · rw [if_neg hbad]
          refine xleft_node o n nm ks A c most w (by omega) hm (by omega) (by omega) (by omega) (by omega) (by omega) hr hlc (fun j hj A' c' m W h1 h2 h3 h4 => ih _ A' c' m W ?_ h3 h4 (hk.kids _ (List.getElem_mem hj)) h1 h2)
          have h1 : SizeOf.sizeOf ks[j] < SizeOf.sizeOf ks := List.sizeOf_lt_of_mem (List.getElem_mem hj)
          simp at hN
          omega
set_option maxHeartbeats 1000000 in
theorem xmay_any (e : Ex) (A : Option Addr) (c : Nat) (w : World) (hr : exK.Row [] w A e.kids) (hlc : e.kids.length ≤ c) (hk : ExN e) :
    Calls Tryz.prog 11 #[exV e A c] w fun r w' => r = .returned (.bool (eMay e)) ∧ Below w.heap.size w w' := by
  have HC := Lib.hid (fun W (h : exK.Row [] W A e.kids) => xleft_any (SizeOf.sizeOf e + 1) e A c 64 W (by omega) h hlc hk (by omega) (by omega))
  have HX := Lib.hid (left_may e)
  obtain ⟨t, ht⟩ : ∃ t, xLeft e 64 = t := ⟨_, rfl⟩
  rw [ht] at HC HX
  clear ht
  have HR := Lib.hid (hr.keep ((Same.refl [] w).alloc (.cells #[.int .i64 e.op, .int .i64 e.n, .string e.name, .slice A e.kids.length c] 24)))
  clear hr
  go_enter Tryz.func11, Tryz.ntmps11
  go_wp2_with (go_at_call 26; refine (HC.out _ HR.out).mono ?_; rintro r w2 ⟨rfl, hb2⟩)
  all_goals
    go_ret
    exact ⟨ret_bool HX.out, ((Below.refl _ _).alloc (Nat.le_refl _) _).trans (hb2.mono (by simp))⟩

set_option maxHeartbeats 2000000 in
theorem xcell_any (env : List Cel) (A : Option Addr) (c : Nat) (name : ByteArray) (w : World) (hr : celK.Row [] w A env) (hlc : env.length ≤ c) :
    Calls Tryz.prog 18 #[.slice A env.length c, .string name] w fun r w' => r = .returned (.tuple #[.int .i64 (cellP name env).1, .bool (cellP name env).2]) ∧ w' = w := by
  have hm := hr.1
  have hmz : (env.length : Int) ≤ 9223372036854775807 := by omega
  obtain ⟨ANS, hANS⟩ : ∃ ANS, cellP name env = ANS := ⟨_, rfl⟩
  rw [hANS]
  have HANS := Lib.hid hANS
  have HROW := Lib.hid hr
  have hlcz : (env.length : Int) ≤ c := by omega
  clear hr hANS
  go_enter Tryz.func18, Tryz.ntmps18
  go_wp2_with fail
  go_loopg [6] (env.length + 1) (fun k s6 w' => ∃ j : Nat, s6 = .int .i64 j ∧ j ≤ env.length ∧ env.length - j < k ∧ cellP name (env.drop j) = ANS ∧ w' = w)
  case atStart => exact ⟨0, rfl, by omega, by omega, HANS.out, rfl⟩
  case round =>
    obtain ⟨j, rfl, hj, hjk, hans, rfl⟩ := hrel
    obtain ⟨gk, rfl⟩ : ∃ k, gk = k + 1 := ⟨gk - 1, by omega⟩
    by_cases hlt : j < env.length
    · have hltz : (j : Int) < env.length := by omega
      have hj0 : (0 : Int) ≤ j := by omega
      obtain ⟨ad, rfl⟩ := row_some HROW.out (by omega)
      obtain ⟨x0, x1⟩ := cel_some HROW.out j hlt
      have hadlt := World.block_lt_of_cell? wr _ x0
      obtain ⟨nm, hnm⟩ : ∃ x, env[j].name = x := ⟨_, rfl⟩
      obtain ⟨n, hn⟩ : ∃ x, env[j].n = x := ⟨_, rfl⟩
      rw [drop_cons env j hlt, cellP, hnm, hn] at hans
      rw [hnm] at x0
      rw [hn] at x1
      obtain ⟨b, hb⟩ : ∃ b, seq nm name = b := ⟨_, rfl⟩
      have hb' : (nm.toList == name.toList) = b := by rw [Lib.toList_data, Lib.toList_data]; exact hb
      rw [hb] at hans
      have HN := Lib.hid hans
      clear hans hb hnm hn
      cases b
      · go_wp2_with fail
        go_roundg gk
        case measure => omega
        case rel => exact ⟨j + 1, by go_num, by omega, by omega, by have h := HN.out; simpa using h, rfl⟩
      · go_wp2_with fail
        go_ret2
        have h : (n, true) = ANS := by simpa using HN.out
        exact ⟨by rw [← h]; first | done | rfl, rfl⟩
    · have hge : (env.length : Int) ≤ j := by omega
      rw [List.drop_of_length_le (by omega), cellP] at hans
      have HN := Lib.hid hans
      clear hans
      go_wp2_with fail
      go_ret2
      exact ⟨by rw [← HN.out]; first | done | rfl, rfl⟩
end Go.Proofs.YtgaiheojlmebaaaGreatDoor
