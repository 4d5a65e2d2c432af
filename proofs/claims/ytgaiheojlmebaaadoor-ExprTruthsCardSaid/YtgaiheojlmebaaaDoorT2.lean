/- The law of truths: the walk. (printed by gen_truth2.py) -/
import Derived.Test.YtgaiheojlmebaaaDoorT1
namespace Go.Proofs.YtgaiheojlmebaaaDoor
open Go Go.RowKit Go.Lib

set_option maxHeartbeats 16000000 in
set_option maxRecDepth 100000 in
theorem truths_any (a b : Int) (w : World) (hT : Tabs w) (ha : Fits a) (hb : Fits b) :
    Calls Tryd.prog 11 #[.int .i64 a, .int .i64 b] w fun r w' => r = .returned (.bool true) ∧ Below w.heap.size w w' := by
  have HT := Lib.hid hT
  have HA := Lib.hid ha
  have HB := Lib.hid hb
  have HS := Lib.hid (vArr_start a b)
  clear hT ha hb
  go_enter Tryd.func11, Tryd.ntmps11
  go_wp2_with fail
  refine (awake_any w HT.out).mono ?_
  rintro r w1 ⟨rfl, hb1⟩
  have H1 := Lib.hid (Hold.mk (HT.out.below hb1) hb1)
  clear hb1
  go_wp2_with fail
  obtain ⟨w2, hw2⟩ : ∃ w2, w1.alloc (.cells #[.string ⟨#[97]⟩, .int .i64 a, .string ⟨#[98]⟩, .int .i64 b] 44 (0, 0)) = w2 := ⟨_, rfl⟩
  have hb2 : Below w1.heap.size w1 w2 := hw2 ▸ (Below.refl _ _).alloc (Nat.le_refl _) _
  have hK2 : EnvB w2 w1.heap.size a b := hw2 ▸ heap_alloc_new _ _
  have hsz : w1.heap.size + 1 = w2.heap.size := by rw [← hw2]; simp
  rw [hw2, hsz]
  obtain ⟨K, hK⟩ : ∃ K, w1.heap.size = K := ⟨_, rfl⟩
  rw [hK] at hK2 ⊢
  have H2 := Lib.hid (H1.out.step hb2)
  have N2 := Lib.hid hK2
  clear hb2 hK2 hw2 hK hsz
  obtain ⟨w3, hw3⟩ : ∃ w3, w2.alloc (.cells #[Value.int IntKind.i64 0, Value.int IntKind.i64 0, Value.int IntKind.i64 0, Value.int IntKind.i64 0, Value.int IntKind.i64 0, Value.int IntKind.i64 0, Value.int IntKind.i64 0, Value.int IntKind.i64 0, Value.int IntKind.i64 0, Value.int IntKind.i64 0, Value.int IntKind.i64 0, Value.int IntKind.i64 0, Value.int IntKind.i64 0, Value.int IntKind.i64 0, Value.int IntKind.i64 0, Value.int IntKind.i64 0, Value.int IntKind.i64 0] 48 (0, 0)) = w3 := ⟨_, rfl⟩
  have hb3 : Below w2.heap.size w2 w3 := hw3 ▸ (Below.refl _ _).alloc (Nat.le_refl _) _
  have hV3 : w3.heap[w2.heap.size]? = some (.cells (vArr a b 9) 48 (0, 0)) := by rw [HS.out]; exact hw3 ▸ heap_alloc_new _ _
  obtain ⟨V, hV⟩ : ∃ V, w2.heap.size = V := ⟨_, rfl⟩
  rw [hw3, hV]
  rw [hV] at hV3
  have H3 := Lib.hid (H2.out.step hb3)
  have N3 := Lib.hid (N2.out.step hb3)
  have V3 := Lib.hid hV3
  have LV : Hid (w.heap.size ≤ V ∧ K < V ∧ gTop ≤ V) := Lib.hid ⟨by rw [← hV]; exact H2.out.below.size, by rw [← hV]; exact blk_lt N2.out, by rw [← hV]; exact H2.out.tabs.size⟩
  clear hb3 hV3 hw3 hV HS
  go_loopg [8] 9 (fun k s8 w' => ∃ op : Int, s8 = .int .i64 op ∧ 9 ≤ op ∧ op ≤ 17 ∧ (17 - op).toNat < k ∧ w'.heap[V]? = some (.cells (vArr a b op) 48 (0, 0)) ∧ EnvB w' K a b ∧ Hold w w')
  case atStart => exact ⟨9, rfl, by decide, by decide, by decide, V3.out, N3.out, H3.out⟩
  case round =>
    obtain ⟨op, rfl, h9, h17, hk, hv, hn, hh⟩ := hrel
    obtain ⟨gk, rfl⟩ : ∃ k, gk = k + 1 := ⟨gk - 1, by omega⟩
    have HV := Lib.hid hv
    have HN := Lib.hid hn
    have HH := Lib.hid hh
    have HKK := Lib.hid hk
    clear hv hn hh V3 N3 H3 N2 H2 H1 hk
    by_cases hend : op = 17
    · subst hend
      clear h9 h17
      obtain ⟨v9, v10, v11, v12, v13, v14, v15, v16, na, nb, e9, e10, e11, e12, e13, e14, e15, e16, ea, eb, ⟨p9, q9, p10, q10, p11, q11, p12, q12, p13, q13, p14, q14, p15, q15, p16, q16, pa, qa, pb, qb⟩, s1, s2, s3, s4, s5, s6⟩ := truths_fit a b
      have EA : Hid (eEval (notE ⟨#[97]⟩) [⟨⟨#[97]⟩, a⟩, ⟨⟨#[98]⟩, b⟩] = (na, 0)) := Lib.hid (by rw [(not_eval a b).1, ea])
      have EB : Hid (eEval (notE ⟨#[98]⟩) [⟨⟨#[97]⟩, a⟩, ⟨⟨#[98]⟩, b⟩] = (nb, 0)) := Lib.hid (by rw [(not_eval a b).2, eb])
      have EV : Hid (vArr a b 17 = #[.int .i64 0, .int .i64 0, .int .i64 0, .int .i64 0, .int .i64 0, .int .i64 0, .int .i64 0, .int .i64 0, .int .i64 0, .int .i64 v9, .int .i64 v10, .int .i64 v11, .int .i64 v12, .int .i64 v13, .int .i64 v14, .int .i64 v15, .int .i64 v16]) := Lib.hid (by
        have h : ∀ j, 9 ≤ j → j < 17 → vAt a b 17 j = (eTwo j a b).1 := fun j h1 h2 => by unfold vAt; rw [if_pos ⟨h1, h2⟩]
        have h0 : ∀ j, j < 9 → vAt a b 17 j = 0 := fun j h1 => by unfold vAt; rw [if_neg (by omega)]
        unfold vArr
        rw [h 9 (by decide) (by decide), h 10 (by decide) (by decide), h 11 (by decide) (by decide), h 12 (by decide) (by decide), h 13 (by decide) (by decide), h 14 (by decide) (by decide), h 15 (by decide) (by decide), h 16 (by decide) (by decide),
          h0 0 (by decide), h0 1 (by decide), h0 2 (by decide), h0 3 (by decide), h0 4 (by decide), h0 5 (by decide), h0 6 (by decide), h0 7 (by decide), h0 8 (by decide), e9, e10, e11, e12, e13, e14, e15, e16])
      have S1 : (v9 + v12 == 1) = true := beq_iff_eq.2 s1
      have S2 : (v11 + v10 == 1) = true := beq_iff_eq.2 s2
      have S3 : (v13 + v14 == 1) = true := beq_iff_eq.2 s3
      have S4 : (v9 + v13 + v11 == 1) = true := beq_iff_eq.2 s4
      have hna : na = 0 ∨ na = 1 := by omega
      have hnb : nb = 0 ∨ nb = 1 := by omega
      have S5 := Lib.hid s5
      have S6 := Lib.hid s6
      clear e9 e10 e11 e12 e13 e14 e15 e16 ea eb s1 s2 s3 s4 s5 s6 pa qa pb qb
      have HVV : Hid (wr.heap[V]? = some (.cells #[.int .i64 0, .int .i64 0, .int .i64 0, .int .i64 0, .int .i64 0, .int .i64 0, .int .i64 0, .int .i64 0, .int .i64 0, .int .i64 v9, .int .i64 v10, .int .i64 v11, .int .i64 v12, .int .i64 v13, .int .i64 v14, .int .i64 v15, .int .i64 v16] 48 (0, 0))) := Lib.hid (by rw [← EV.out]; exact HV.out)
      clear HV EV
      go_wp2_with fail
      obtain ⟨w4, hw4⟩ : ∃ w', wr.alloc (.cells #[.int .i64 1, .int .i64 0, .string ⟨#[97]⟩, .slice none 0 0] 25 (0, 0)) = w' := ⟨_, rfl⟩
      have hb4 : Below wr.heap.size wr w4 := hw4 ▸ (Below.refl _ _).alloc (Nat.le_refl _) _
      have hQ4 : w4.heap[wr.heap.size]? = some (.cells #[.int .i64 1, .int .i64 0, .string ⟨#[97]⟩, .slice none 0 0] 25 (0, 0)) := hw4 ▸ heap_alloc_new _ _
      rw [hw4]
      have N4 := Lib.hid (HN.out.step hb4)
      have H4 := Lib.hid (HH.out.step hb4)
      have V4 := Lib.hid ((hb4.block V (blk_lt HVV.out)).trans HVV.out)
      refine (evalnot_any ⟨#[97]⟩ a b _ (by decide) EA.out HA.out HB.out K _ w4 hQ4 N4.out H4.out.tabs).mono ?_
      rintro r w5 ⟨rfl, hb5⟩
      have N5 := Lib.hid (N4.out.step hb5)
      have H5 := Lib.hid (H4.out.step hb5)
      have V5 := Lib.hid ((hb5.block V (blk_lt V4.out)).trans V4.out)
      clear hb4 hQ4 hw4 hb5
      go_wp2_with fail
      obtain ⟨w6, hw6⟩ : ∃ w', w5.alloc (.cells #[.int .i64 1, .int .i64 0, .string ⟨#[98]⟩, .slice none 0 0] 25 (0, 0)) = w' := ⟨_, rfl⟩
      have hb6 : Below w5.heap.size w5 w6 := hw6 ▸ (Below.refl _ _).alloc (Nat.le_refl _) _
      have hQ6 : w6.heap[w5.heap.size]? = some (.cells #[.int .i64 1, .int .i64 0, .string ⟨#[98]⟩, .slice none 0 0] 25 (0, 0)) := hw6 ▸ heap_alloc_new _ _
      rw [hw6]
      have N6 := Lib.hid (N5.out.step hb6)
      have H6 := Lib.hid (H5.out.step hb6)
      have V6 := Lib.hid ((hb6.block V (blk_lt V5.out)).trans V5.out)
      refine (evalnot_any ⟨#[98]⟩ a b _ (by decide) EB.out HA.out HB.out K _ w6 hQ6 N6.out H6.out.tabs).mono ?_
      rintro r w7 ⟨rfl, hb7⟩
      have N7 := Lib.hid (N6.out.step hb7)
      have H7 := Lib.hid (H6.out.step hb7)
      have V7 := Lib.hid ((hb7.block V (blk_lt V6.out)).trans V6.out)
      clear hb6 hQ6 hw6 hb7
      have c9 : w7.cell? ⟨V, 9, none⟩ = some (.int .i64 v9) := (blk_cell V7.out 9).trans rfl
      have c10 : w7.cell? ⟨V, 10, none⟩ = some (.int .i64 v10) := (blk_cell V7.out 10).trans rfl
      have c11 : w7.cell? ⟨V, 11, none⟩ = some (.int .i64 v11) := (blk_cell V7.out 11).trans rfl
      have c12 : w7.cell? ⟨V, 12, none⟩ = some (.int .i64 v12) := (blk_cell V7.out 12).trans rfl
      have c13 : w7.cell? ⟨V, 13, none⟩ = some (.int .i64 v13) := (blk_cell V7.out 13).trans rfl
      have c14 : w7.cell? ⟨V, 14, none⟩ = some (.int .i64 v14) := (blk_cell V7.out 14).trans rfl
      have c15 : w7.cell? ⟨V, 15, none⟩ = some (.int .i64 v15) := (blk_cell V7.out 15).trans rfl
      have c16 : w7.cell? ⟨V, 16, none⟩ = some (.int .i64 v16) := (blk_cell V7.out 16).trans rfl
      rcases hna with rfl | rfl <;> rcases hnb with rfl | rfl
      all_goals
        have h5 := S5.out
        have h6 := S6.out
        simp only [Int.mul_zero, Int.sub_zero, Int.sub_self, Int.mul_one] at h5 h6
        subst h5 h6
        go_wp2
        go_ret
        exact ⟨rfl, H7.out.below⟩
    · have hop : op = 9 ∨ op = 10 ∨ op = 11 ∨ op = 12 ∨ op = 13 ∨ op = 14 ∨ op = 15 ∨ op = 16 := by omega
      clear h9 h17 hend
      rcases hop with rfl | rfl | rfl | rfl | rfl | rfl | rfl | rfl
      · obtain ⟨p, hp⟩ := truth_two 9 a b (by decide) (by decide)
        have HP := Lib.hid hp
        clear hp
        go_wp2_with fail
        refine (pair_any 9 wr).mono ?_
        rintro r w4 ⟨B, rfl, hx4, hb4⟩
        have X4 := Lib.hid hx4
        have N4 := Lib.hid (HN.out.step hb4)
        have H4 := Lib.hid (HH.out.step hb4)
        have V4 := Lib.hid ((hb4.block V (blk_lt HV.out)).trans HV.out)
        clear hx4 hb4
        go_wp2_with fail
        refine (evalpair_any 9 a b (by decide) (by decide) HA.out HB.out B K _ w4 X4.out N4.out H4.out.tabs).mono ?_
        rw [HP.out]
        rintro r w5 ⟨rfl, hb5⟩
        have N5 := Lib.hid (N4.out.step hb5)
        have H5 := Lib.hid (H4.out.step hb5)
        have V5 := Lib.hid ((hb5.block V (blk_lt V4.out)).trans V4.out)
        have q0 := (blk_cell V5.out 9).trans rfl
        have f0 := blk_frozen V5.out 9
        clear hb5
        cases p
        all_goals
          go_wp2
          go_roundg gk
          case measure => exact Nat.lt_succ_self _
          case rel =>
            refine ⟨9 + 1, rfl, by decide, by decide, by have := HKK.out; omega, ?_, ?_, ?_⟩
            · rw [blk_set V5.out, vArr_set9 a b _ (by rw [HP.out]; first | done | rfl)]
            · exact (Below.heap_setCell _ _ _ _ (by have := LV.out; show K ≠ V; omega)).trans N5.out
            · exact ⟨H5.out.tabs.setCell (by have := LV.out; show gTop ≤ V; omega) _, H5.out.below.setCell (by have := LV.out; show w.heap.size ≤ V; omega) _⟩
      · obtain ⟨p, hp⟩ := truth_two 10 a b (by decide) (by decide)
        have HP := Lib.hid hp
        clear hp
        go_wp2_with fail
        refine (pair_any 10 wr).mono ?_
        rintro r w4 ⟨B, rfl, hx4, hb4⟩
        have X4 := Lib.hid hx4
        have N4 := Lib.hid (HN.out.step hb4)
        have H4 := Lib.hid (HH.out.step hb4)
        have V4 := Lib.hid ((hb4.block V (blk_lt HV.out)).trans HV.out)
        clear hx4 hb4
        go_wp2_with fail
        refine (evalpair_any 10 a b (by decide) (by decide) HA.out HB.out B K _ w4 X4.out N4.out H4.out.tabs).mono ?_
        rw [HP.out]
        rintro r w5 ⟨rfl, hb5⟩
        have N5 := Lib.hid (N4.out.step hb5)
        have H5 := Lib.hid (H4.out.step hb5)
        have V5 := Lib.hid ((hb5.block V (blk_lt V4.out)).trans V4.out)
        have q0 := (blk_cell V5.out 10).trans rfl
        have f0 := blk_frozen V5.out 10
        clear hb5
        cases p
        all_goals
          go_wp2
          go_roundg gk
          case measure => exact Nat.lt_succ_self _
          case rel =>
            refine ⟨10 + 1, rfl, by decide, by decide, by have := HKK.out; omega, ?_, ?_, ?_⟩
            · rw [blk_set V5.out, vArr_set10 a b _ (by rw [HP.out]; first | done | rfl)]
            · exact (Below.heap_setCell _ _ _ _ (by have := LV.out; show K ≠ V; omega)).trans N5.out
            · exact ⟨H5.out.tabs.setCell (by have := LV.out; show gTop ≤ V; omega) _, H5.out.below.setCell (by have := LV.out; show w.heap.size ≤ V; omega) _⟩
      · obtain ⟨p, hp⟩ := truth_two 11 a b (by decide) (by decide)
        have HP := Lib.hid hp
        clear hp
        go_wp2_with fail
        refine (pair_any 11 wr).mono ?_
        rintro r w4 ⟨B, rfl, hx4, hb4⟩
        have X4 := Lib.hid hx4
        have N4 := Lib.hid (HN.out.step hb4)
        have H4 := Lib.hid (HH.out.step hb4)
        have V4 := Lib.hid ((hb4.block V (blk_lt HV.out)).trans HV.out)
        clear hx4 hb4
        go_wp2_with fail
        refine (evalpair_any 11 a b (by decide) (by decide) HA.out HB.out B K _ w4 X4.out N4.out H4.out.tabs).mono ?_
        rw [HP.out]
        rintro r w5 ⟨rfl, hb5⟩
        have N5 := Lib.hid (N4.out.step hb5)
        have H5 := Lib.hid (H4.out.step hb5)
        have V5 := Lib.hid ((hb5.block V (blk_lt V4.out)).trans V4.out)
        have q0 := (blk_cell V5.out 11).trans rfl
        have f0 := blk_frozen V5.out 11
        clear hb5
        cases p
        all_goals
          go_wp2
          go_roundg gk
          case measure => exact Nat.lt_succ_self _
          case rel =>
            refine ⟨11 + 1, rfl, by decide, by decide, by have := HKK.out; omega, ?_, ?_, ?_⟩
            · rw [blk_set V5.out, vArr_set11 a b _ (by rw [HP.out]; first | done | rfl)]
            · exact (Below.heap_setCell _ _ _ _ (by have := LV.out; show K ≠ V; omega)).trans N5.out
            · exact ⟨H5.out.tabs.setCell (by have := LV.out; show gTop ≤ V; omega) _, H5.out.below.setCell (by have := LV.out; show w.heap.size ≤ V; omega) _⟩
      · obtain ⟨p, hp⟩ := truth_two 12 a b (by decide) (by decide)
        have HP := Lib.hid hp
        clear hp
        go_wp2_with fail
        refine (pair_any 12 wr).mono ?_
        rintro r w4 ⟨B, rfl, hx4, hb4⟩
        have X4 := Lib.hid hx4
        have N4 := Lib.hid (HN.out.step hb4)
        have H4 := Lib.hid (HH.out.step hb4)
        have V4 := Lib.hid ((hb4.block V (blk_lt HV.out)).trans HV.out)
        clear hx4 hb4
        go_wp2_with fail
        refine (evalpair_any 12 a b (by decide) (by decide) HA.out HB.out B K _ w4 X4.out N4.out H4.out.tabs).mono ?_
        rw [HP.out]
        rintro r w5 ⟨rfl, hb5⟩
        have N5 := Lib.hid (N4.out.step hb5)
        have H5 := Lib.hid (H4.out.step hb5)
        have V5 := Lib.hid ((hb5.block V (blk_lt V4.out)).trans V4.out)
        have q0 := (blk_cell V5.out 12).trans rfl
        have f0 := blk_frozen V5.out 12
        clear hb5
        cases p
        all_goals
          go_wp2
          go_roundg gk
          case measure => exact Nat.lt_succ_self _
          case rel =>
            refine ⟨12 + 1, rfl, by decide, by decide, by have := HKK.out; omega, ?_, ?_, ?_⟩
            · rw [blk_set V5.out, vArr_set12 a b _ (by rw [HP.out]; first | done | rfl)]
            · exact (Below.heap_setCell _ _ _ _ (by have := LV.out; show K ≠ V; omega)).trans N5.out
            · exact ⟨H5.out.tabs.setCell (by have := LV.out; show gTop ≤ V; omega) _, H5.out.below.setCell (by have := LV.out; show w.heap.size ≤ V; omega) _⟩
      · obtain ⟨p, hp⟩ := truth_two 13 a b (by decide) (by decide)
        have HP := Lib.hid hp
        clear hp
        go_wp2_with fail
        refine (pair_any 13 wr).mono ?_
        rintro r w4 ⟨B, rfl, hx4, hb4⟩
        have X4 := Lib.hid hx4
        have N4 := Lib.hid (HN.out.step hb4)
        have H4 := Lib.hid (HH.out.step hb4)
        have V4 := Lib.hid ((hb4.block V (blk_lt HV.out)).trans HV.out)
        clear hx4 hb4
        go_wp2_with fail
        refine (evalpair_any 13 a b (by decide) (by decide) HA.out HB.out B K _ w4 X4.out N4.out H4.out.tabs).mono ?_
        rw [HP.out]
        rintro r w5 ⟨rfl, hb5⟩
        have N5 := Lib.hid (N4.out.step hb5)
        have H5 := Lib.hid (H4.out.step hb5)
        have V5 := Lib.hid ((hb5.block V (blk_lt V4.out)).trans V4.out)
        have q0 := (blk_cell V5.out 13).trans rfl
        have f0 := blk_frozen V5.out 13
        clear hb5
        cases p
        all_goals
          go_wp2
          go_roundg gk
          case measure => exact Nat.lt_succ_self _
          case rel =>
            refine ⟨13 + 1, rfl, by decide, by decide, by have := HKK.out; omega, ?_, ?_, ?_⟩
            · rw [blk_set V5.out, vArr_set13 a b _ (by rw [HP.out]; first | done | rfl)]
            · exact (Below.heap_setCell _ _ _ _ (by have := LV.out; show K ≠ V; omega)).trans N5.out
            · exact ⟨H5.out.tabs.setCell (by have := LV.out; show gTop ≤ V; omega) _, H5.out.below.setCell (by have := LV.out; show w.heap.size ≤ V; omega) _⟩
      · obtain ⟨p, hp⟩ := truth_two 14 a b (by decide) (by decide)
        have HP := Lib.hid hp
        clear hp
        go_wp2_with fail
        refine (pair_any 14 wr).mono ?_
        rintro r w4 ⟨B, rfl, hx4, hb4⟩
        have X4 := Lib.hid hx4
        have N4 := Lib.hid (HN.out.step hb4)
        have H4 := Lib.hid (HH.out.step hb4)
        have V4 := Lib.hid ((hb4.block V (blk_lt HV.out)).trans HV.out)
        clear hx4 hb4
        go_wp2_with fail
        refine (evalpair_any 14 a b (by decide) (by decide) HA.out HB.out B K _ w4 X4.out N4.out H4.out.tabs).mono ?_
        rw [HP.out]
        rintro r w5 ⟨rfl, hb5⟩
        have N5 := Lib.hid (N4.out.step hb5)
        have H5 := Lib.hid (H4.out.step hb5)
        have V5 := Lib.hid ((hb5.block V (blk_lt V4.out)).trans V4.out)
        have q0 := (blk_cell V5.out 14).trans rfl
        have f0 := blk_frozen V5.out 14
        clear hb5
        cases p
        all_goals
          go_wp2
          go_roundg gk
          case measure => exact Nat.lt_succ_self _
          case rel =>
            refine ⟨14 + 1, rfl, by decide, by decide, by have := HKK.out; omega, ?_, ?_, ?_⟩
            · rw [blk_set V5.out, vArr_set14 a b _ (by rw [HP.out]; first | done | rfl)]
            · exact (Below.heap_setCell _ _ _ _ (by have := LV.out; show K ≠ V; omega)).trans N5.out
            · exact ⟨H5.out.tabs.setCell (by have := LV.out; show gTop ≤ V; omega) _, H5.out.below.setCell (by have := LV.out; show w.heap.size ≤ V; omega) _⟩
      · obtain ⟨p, hp⟩ := truth_two 15 a b (by decide) (by decide)
        have HP := Lib.hid hp
        clear hp
        go_wp2_with fail
        refine (pair_any 15 wr).mono ?_
        rintro r w4 ⟨B, rfl, hx4, hb4⟩
        have X4 := Lib.hid hx4
        have N4 := Lib.hid (HN.out.step hb4)
        have H4 := Lib.hid (HH.out.step hb4)
        have V4 := Lib.hid ((hb4.block V (blk_lt HV.out)).trans HV.out)
        clear hx4 hb4
        go_wp2_with fail
        refine (evalpair_any 15 a b (by decide) (by decide) HA.out HB.out B K _ w4 X4.out N4.out H4.out.tabs).mono ?_
        rw [HP.out]
        rintro r w5 ⟨rfl, hb5⟩
        have N5 := Lib.hid (N4.out.step hb5)
        have H5 := Lib.hid (H4.out.step hb5)
        have V5 := Lib.hid ((hb5.block V (blk_lt V4.out)).trans V4.out)
        have q0 := (blk_cell V5.out 15).trans rfl
        have f0 := blk_frozen V5.out 15
        clear hb5
        cases p
        all_goals
          go_wp2
          go_roundg gk
          case measure => exact Nat.lt_succ_self _
          case rel =>
            refine ⟨15 + 1, rfl, by decide, by decide, by have := HKK.out; omega, ?_, ?_, ?_⟩
            · rw [blk_set V5.out, vArr_set15 a b _ (by rw [HP.out]; first | done | rfl)]
            · exact (Below.heap_setCell _ _ _ _ (by have := LV.out; show K ≠ V; omega)).trans N5.out
            · exact ⟨H5.out.tabs.setCell (by have := LV.out; show gTop ≤ V; omega) _, H5.out.below.setCell (by have := LV.out; show w.heap.size ≤ V; omega) _⟩
      · obtain ⟨p, hp⟩ := truth_two 16 a b (by decide) (by decide)
        have HP := Lib.hid hp
        clear hp
        go_wp2_with fail
        refine (pair_any 16 wr).mono ?_
        rintro r w4 ⟨B, rfl, hx4, hb4⟩
        have X4 := Lib.hid hx4
        have N4 := Lib.hid (HN.out.step hb4)
        have H4 := Lib.hid (HH.out.step hb4)
        have V4 := Lib.hid ((hb4.block V (blk_lt HV.out)).trans HV.out)
        clear hx4 hb4
        go_wp2_with fail
        refine (evalpair_any 16 a b (by decide) (by decide) HA.out HB.out B K _ w4 X4.out N4.out H4.out.tabs).mono ?_
        rw [HP.out]
        rintro r w5 ⟨rfl, hb5⟩
        have N5 := Lib.hid (N4.out.step hb5)
        have H5 := Lib.hid (H4.out.step hb5)
        have V5 := Lib.hid ((hb5.block V (blk_lt V4.out)).trans V4.out)
        have q0 := (blk_cell V5.out 16).trans rfl
        have f0 := blk_frozen V5.out 16
        clear hb5
        cases p
        all_goals
          go_wp2
          go_roundg gk
          case measure => exact Nat.lt_succ_self _
          case rel =>
            refine ⟨16 + 1, rfl, by decide, by decide, by have := HKK.out; omega, ?_, ?_, ?_⟩
            · rw [blk_set V5.out, vArr_set16 a b _ (by rw [HP.out]; first | done | rfl)]
            · exact (Below.heap_setCell _ _ _ _ (by have := LV.out; show K ≠ V; omega)).trans N5.out
            · exact ⟨H5.out.tabs.setCell (by have := LV.out; show gTop ≤ V; omega) _, H5.out.below.setCell (by have := LV.out; show w.heap.size ≤ V; omega) _⟩
end Go.Proofs.YtgaiheojlmebaaaDoor
