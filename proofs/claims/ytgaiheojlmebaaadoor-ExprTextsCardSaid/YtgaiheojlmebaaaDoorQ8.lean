/- Walks: the reference's token: signs; all classes together. -/
import Derived.Test.YtgaiheojlmebaaaDoorQ7
namespace Go.Proofs.YtgaiheojlmebaaaDoor
open Go Go.RowKit Go.Lib

set_option maxHeartbeats 16000000 in
set_option maxRecDepth 100000 in
theorem xtoken_4 (s : ByteArray) (A : Option Addr) (a : Nat) (B : Option Addr) (b : Nat) (i : Nat) (w : World) (h : Txt w s A a B b) (hi : i < (rv s.data.toList).length) (hc : cls (rv s.data.toList)[i] = 4) :
    Calls Tryd.prog 42 #[txV s A a B b, .int .i64 i] w (TkPost (tokT (tokX (suf_ s i)) i) w) := by
  have hn := h.runes_le
  have hra := h.ra
  have hsz := h.size
  obtain ⟨m, hm⟩ : ∃ m, m = if i + 1 < (rv s.data.toList).length ∧ (rv s.data.toList).getD (i + 1) 0 = 61 then (if isTwo (s.extract (bw s.data.toList i) (bw s.data.toList (i + 2))) then 2 else 1) else 1 := ⟨_, rfl⟩
  have HX := Lib.hid (tokI4 h.vd hi hc hm)
  generalize tokT (tokX (suf_ s i)) i = T at HX ⊢
  have HT := Lib.hid h
  have hwl := wordC_le ((rv s.data.toList).drop i)
  rw [List.length_drop] at hwl
  have HWD := Lib.hid (fun W (hW : Txt W s A a B b) => xword_any s A a B b i W hW (Nat.le_of_lt hi))
  have HPT := Lib.hid (fun (k : Nat) (W : World) (hW : Txt W s A a B b) (h1 : i ≤ k) (h2 : k ≤ (rv s.data.toList).length) => xpart_any s A a B b i k W hW h1 h2)
  have hrow := h.r
  unfold txV at HWD HPT ⊢
  generalize bw s.data.toList = BW at HX HPT hm
  generalize hRR : rv s.data.toList = R at *
  generalize hL2 : (plc s.data.toList).length = L2 at *
  clear h
  obtain ⟨n, hwn⟩ : ∃ n, wordC (R.drop i) = n := ⟨_, rfl⟩
  rw [hwn] at hwl HWD
  obtain ⟨q, hq⟩ : ∃ q, i + n = q := ⟨_, rfl⟩
  rw [hq] at HWD
  have hiq : i ≤ q := by omega
  have hqr : q ≤ R.length := by omega
  have HNQ := Lib.hid hq
  obtain ⟨ad, rfl⟩ := row_some hrow (by omega)
  obtain ⟨ad', e0, x0⟩ := int_at hrow i hi
  injection e0 with e0
  subst e0
  obtain ⟨r, hr⟩ : ∃ r, R[i] = r := ⟨_, rfl⟩
  rw [hr] at x0 hc
  have HC : Hid (∀ W, Calls Tryd.prog 69 #[.int .i64 r] W fun e w' => e = .returned (.int .i64 4) ∧ W = w') := Lib.hid (fun W => by have := xclass_q r W; rwa [hc] at this)
  obtain ⟨j, hj⟩ : ∃ j, i + 1 = j := ⟨_, rfl⟩
  obtain ⟨j2, hj2⟩ : ∃ j, i + 2 = j := ⟨_, rfl⟩
  have hjz : (i : Int) + 1 = (j : Int) := by omega
  have hjz2 : (i : Int) + 2 = (j2 : Int) := by omega
  have hjz3 : (j : Int) + 1 = (j2 : Int) := by omega
  rw [hj, hj2] at hm
  have HP1 := Lib.hid (fun W hW h2 => HPT.out j W hW (by omega) h2)
  have HP2 := Lib.hid (fun W hW h2 => HPT.out j2 W hW (by omega) h2)
  have HJ := Lib.hid (And.intro hj hj2)
  have HM := Lib.hid hm
  clear hm HPT hj hj2
  have hnz : (R.length : Int) ≤ 8192 := by omega
  have hraz : (R.length : Int) ≤ a := by omega
  have hi0 : (0 : Int) ≤ i := by omega
  have hiz : (i : Int) < R.length := by omega
  have hqz : (q : Int) ≤ 8192 := by omega
  have hiqz : (i : Int) ≤ q := by omega
  have HROW := Lib.hid hrow
  have hltx := World.block_lt_of_cell? w _ x0
  obtain ⟨w0, hw0⟩ : ∃ w', w.alloc (.cells #[.string s, .slice (some ad) R.length a, .slice B L2 b] 68 (0, 0)) = w' := ⟨_, rfl⟩
  have hb0 : Below w.heap.size w w0 := hw0 ▸ (Below.refl _ _).alloc (Nat.le_refl _) _
  have hq0 : TxB w0 w.heap.size s (.slice (some ad) R.length a) (.slice B L2 b) := hw0 ▸ heap_alloc_new _ _
  obtain ⟨w1, hw1⟩ : ∃ w', w0.alloc (.cells #[.int .i64 0, .string ⟨#[]⟩, .int .i64 0, .int .i64 0] 52 (0, 0)) = w' := ⟨_, rfl⟩
  have hb1 : Below w0.heap.size w0 w1 := hw1 ▸ (Below.refl _ _).alloc (Nat.le_refl _) _
  have hz1 : w1.heap[w0.heap.size]? = some (.cells #[.int .i64 0, .string ⟨#[]⟩, .int .i64 0, .int .i64 0] 52 (0, 0)) := hw1 ▸ heap_alloc_new _ _
  have hq1 := (hb1.block _ (blk_lt hq0)).trans hq0
  have hb01 := hb0.trans (hb1.mono hb0.size)
  obtain ⟨K, hK⟩ : ∃ K, w.heap.size = K := ⟨_, rfl⟩
  obtain ⟨P, hP⟩ : ∃ P, w0.heap.size = P := ⟨_, rfl⟩
  have hKP : w.heap.size ≤ P := by rw [← hP]; exact hb0.size
  have HKP := Lib.hid hKP
  have H1 : Hid (TokW w K P s (some ad) a B b R.length L2 w1) := Lib.hid ⟨HT.out.below hb01, by rw [← hK]; exact hq1, by rw [← hP]; exact hz1, hb01⟩
  have x1 := (hb01.cell hltx).trans x0
  have HX1 := Lib.hid x1
  have HL1 := Lib.hid (Nat.lt_of_lt_of_le hltx hb01.size)
  obtain ⟨⟨y0, y1, y2⟩, _⟩ := blk3 H1.out.box
  have hlK := blk_lt H1.out.box
  clear hwn hq hrow x0 hltx hb0 hq0 hb1 hz1 hq1 hb01 hKP x1 HT hr
  go_enter Tryd.func42, Tryd.ntmps42
  go_wp2_with fail
  clear hw0 hw1 hK hP
  refine (HWD.out w1 H1.out.txt).mono ?_
  rintro e w2 ⟨rfl, hb2⟩
  have H2 := Lib.hid (H1.out.step hb2)
  have x2 := (hb2.cell HL1.out).trans HX1.out
  have hlx := Nat.lt_of_lt_of_le HL1.out hb2.size
  have HROW2 := Lib.hid ((HROW.out.keep (Same.of_below (M := []) H2.out.below)))
  clear y0 y1 y2 hlK hb2
  obtain ⟨⟨y0, y1, y2⟩, _⟩ := blk3 H2.out.box
  have hlK := blk_lt H2.out.box
  go_wp2_with fail
  refine (HC.out w2).mono ?_
  rintro e w3 ⟨rfl, rfl⟩
  by_cases hl : j < R.length
  · have hlz : (j : Int) < R.length := by omega
    have hj0 : (0 : Int) ≤ j := by omega
    obtain ⟨ad', e0, v0⟩ := int_at HROW2.out j hl
    injection e0 with e0
    subst e0
    have hltv := World.block_lt_of_cell? w2 _ v0
    obtain ⟨u, hu⟩ : ∃ u, R[j] = u := ⟨_, rfl⟩
    have hg : R.getD j 0 = u := by rw [List.getD_eq_getElem?_getD, List.getElem?_eq_getElem hl, hu]; rfl
    rw [hu] at v0
    by_cases h61 : u = 61
    · have hm1 : m = if isTwo (s.extract (BW i) (BW j2)) then 2 else 1 := by rw [HM.out, if_pos ⟨hl, by rw [hg]; exact h61⟩]
      subst h61
      have HM1 := Lib.hid hm1
      clear hm1 hg hu
      go_wp2_with fail
      refine (HP2.out w2 H2.out.txt (by omega)).mono ?_
      rintro e w4 ⟨rfl, hb4⟩
      have H4 := Lib.hid (H2.out.step hb4)
      clear y0 y1 y2 hlK hb4 hltv v0
      obtain ⟨⟨y0, y1, y2⟩, _⟩ := blk3 H4.out.box
      have hlK := blk_lt H4.out.box
      obtain ⟨p2, hp2⟩ : ∃ p, s.extract (BW i) (BW j2) = p := ⟨_, rfl⟩
      have hm1 := HM1.out
      rw [hp2] at hm1 ⊢
      have HP2E := Lib.hid hp2
      have hI : isTwo p2 = (p2.toList == [60, 61] || (p2.toList == [62, 61] || (p2.toList == [61, 61] || (p2.toList == [33, 61] || p2.toList == [58, 61])))) := by unfold isTwo seq; rw [Lib.toList_data]
      have hw : ((((p2.toList == [60, 61]) = true) ∨ ((p2.toList == [60, 61]) = false ∧ (p2.toList == [62, 61]) = true) ∨ ((p2.toList == [60, 61]) = false ∧ (p2.toList == [62, 61]) = false ∧ (p2.toList == [61, 61]) = true) ∨ ((p2.toList == [60, 61]) = false ∧ (p2.toList == [62, 61]) = false ∧ (p2.toList == [61, 61]) = false ∧ (p2.toList == [33, 61]) = true) ∨ ((p2.toList == [60, 61]) = false ∧ (p2.toList == [62, 61]) = false ∧ (p2.toList == [61, 61]) = false ∧ (p2.toList == [33, 61]) = false ∧ (p2.toList == [58, 61]) = true)) ∧ m = 2) ∨ ((p2.toList == [60, 61]) = false ∧ (p2.toList == [62, 61]) = false ∧ (p2.toList == [61, 61]) = false ∧ (p2.toList == [33, 61]) = false ∧ (p2.toList == [58, 61]) = false ∧ m = 1) := by
        rw [hI] at hm1
        cases e1 : (p2.toList == [60, 61]) with
        | true => exact .inl ⟨.inl rfl, by rw [hm1, e1]; rfl⟩
        | false =>
        cases e2 : (p2.toList == [62, 61]) with
        | true => exact .inl ⟨.inr (.inl ⟨rfl, rfl⟩), by rw [hm1, e1, e2]; rfl⟩
        | false =>
        cases e3 : (p2.toList == [61, 61]) with
        | true => exact .inl ⟨.inr (.inr (.inl ⟨rfl, rfl, rfl⟩)), by rw [hm1, e1, e2, e3]; rfl⟩
        | false =>
        cases e4 : (p2.toList == [33, 61]) with
        | true => exact .inl ⟨.inr (.inr (.inr (.inl ⟨rfl, rfl, rfl, rfl⟩))), by rw [hm1, e1, e2, e3, e4]; rfl⟩
        | false =>
        cases e5 : (p2.toList == [58, 61]) with
        | true => exact .inl ⟨.inr (.inr (.inr (.inr (⟨rfl, rfl, rfl, rfl, rfl⟩)))), by rw [hm1, e1, e2, e3, e4, e5]; rfl⟩
        | false =>
        exact .inr ⟨rfl, rfl, rfl, rfl, rfl, by rw [hm1, e1, e2, e3, e4, e5]; rfl⟩
      clear hp2 hI hm1
      rcases hw with ⟨hw, hm2⟩ | ⟨e1, e2, e3, e4, e5, hm1⟩
      · have HE : Hid (T = (⟨4, p2, 0, i⟩, (j2 : Int), 0)) := Lib.hid (by rw [HX.out, hm2, HJ.out.2, HP2E.out])
        clear hm2
        rcases hw with e1 | ⟨e1, e2⟩ | ⟨e1, e2, e3⟩ | ⟨e1, e2, e3, e4⟩ | ⟨e1, e2, e3, e4, e5⟩
        all_goals
          go_wp2_with fail
          refine (HP2.out w4 H4.out.txt (by omega)).mono ?_
          rw [HP2E.out]
          rintro e w5 ⟨rfl, hb5⟩
          have H5 := Lib.hid (H4.out.step hb5)
          clear y0 y1 y2 hlK hb5
          obtain ⟨⟨z0, z1, z2, z3⟩, g0, g1, g2, g3⟩ := blk4 H5.out.out
          have hlP := blk_lt H5.out.out
          go_wp2
          refine bodyPost_ret (v := .tuple #[.agg #[.int .i64 4, .string p2, .int .i64 0, .int .i64 i], .int .i64 j2, .int .i64 0]) (by simp [results, Tryd.results42, go_sem, *]) rfl ?_
          exact ⟨by rw [HE.out]; first | done | rfl, below_set4' H5.out.below HKP.out _ _ _ _⟩
      · have HE : Hid (T = (⟨4, s.extract (BW i) (BW j), 0, i⟩, (j : Int), 0)) := Lib.hid (by rw [HX.out, hm1, HJ.out.1])
        clear hm1
        go_wp2_with fail
        refine (HP1.out w4 H4.out.txt (by omega)).mono ?_
        rintro e w5 ⟨rfl, hb5⟩
        have H5 := Lib.hid (H4.out.step hb5)
        clear y0 y1 y2 hlK hb5
        generalize s.extract (BW i) (BW j) = tx at HE ⊢
        obtain ⟨⟨z0, z1, z2, z3⟩, g0, g1, g2, g3⟩ := blk4 H5.out.out
        have hlP := blk_lt H5.out.out
        go_wp2
        refine bodyPost_ret (v := .tuple #[.agg #[.int .i64 4, .string tx, .int .i64 0, .int .i64 i], .int .i64 j, .int .i64 0]) (by simp [results, Tryd.results42, go_sem, *]) rfl ?_
        exact ⟨by rw [HE.out]; first | done | rfl, below_set4' H5.out.below HKP.out _ _ _ _⟩
    · have hm1 : m = 1 := by rw [HM.out, if_neg (by rw [hg]; exact fun e => h61 e.2)]
      have h61b : (u == 61) = false := beqf h61
      have HE : Hid (T = (⟨4, s.extract (BW i) (BW j), 0, i⟩, (j : Int), 0)) := Lib.hid (by rw [HX.out, hm1, HJ.out.1])
      clear hm1 hg hu h61
      go_wp2_with fail
      refine (HP1.out w2 H2.out.txt (by omega)).mono ?_
      rintro e w4 ⟨rfl, hb4⟩
      have H4 := Lib.hid (H2.out.step hb4)
      clear y0 y1 y2 hlK hb4
      generalize s.extract (BW i) (BW j) = tx at HE ⊢
      obtain ⟨⟨z0, z1, z2, z3⟩, g0, g1, g2, g3⟩ := blk4 H4.out.out
      have hlP := blk_lt H4.out.out
      go_wp2
      refine bodyPost_ret (v := .tuple #[.agg #[.int .i64 4, .string tx, .int .i64 0, .int .i64 i], .int .i64 j, .int .i64 0]) (by simp [results, Tryd.results42, go_sem, *]) rfl ?_
      exact ⟨by rw [HE.out]; first | done | rfl, below_set4' H4.out.below HKP.out _ _ _ _⟩
  · have hm1 : m = 1 := by rw [HM.out, if_neg (fun e => hl e.1)]
    have hlz : (R.length : Int) ≤ j := by omega
    have HE : Hid (T = (⟨4, s.extract (BW i) (BW j), 0, i⟩, (j : Int), 0)) := Lib.hid (by rw [HX.out, hm1, HJ.out.1])
    clear hm1 hl
    go_wp2_with fail
    refine (HP1.out w2 H2.out.txt (by omega)).mono ?_
    rintro e w4 ⟨rfl, hb4⟩
    have H4 := Lib.hid (H2.out.step hb4)
    clear y0 y1 y2 hlK hb4
    generalize s.extract (BW i) (BW j) = tx at HE ⊢
    obtain ⟨⟨z0, z1, z2, z3⟩, g0, g1, g2, g3⟩ := blk4 H4.out.out
    have hlP := blk_lt H4.out.out
    go_wp2
    refine bodyPost_ret (v := .tuple #[.agg #[.int .i64 4, .string tx, .int .i64 0, .int .i64 i], .int .i64 j, .int .i64 0]) (by simp [results, Tryd.results42, go_sem, *]) rfl ?_
    exact ⟨by rw [HE.out]; first | done | rfl, below_set4' H4.out.below HKP.out _ _ _ _⟩

theorem xlex_any (s : ByteArray) (A : Option Addr) (a : Nat) (B : Option Addr) (b : Nat) (i : Nat) (w : World) (h : Txt w s A a B b) (hi : i < (rv s.data.toList).length) :
    Calls Tryd.prog 42 #[txV s A a B b, .int .i64 i] w (TkPost (tokT (tokX (suf_ s i)) i) w) := by
  by_cases h2 : cls (rv s.data.toList)[i] = 2
  · exact xtoken_2 s A a B b i w h hi h2
  · by_cases h3 : cls (rv s.data.toList)[i] = 3
    · exact xtoken_3 s A a B b i w h hi h3
    · by_cases h5 : cls (rv s.data.toList)[i] = 5
      · exact xtoken_5 s A a B b i w h hi h5
      · by_cases h4 : cls (rv s.data.toList)[i] = 4
        · exact xtoken_4 s A a B b i w h hi h4
        · exact xtoken_0 s A a B b i w h hi ⟨h2, h3, h5, h4⟩
end Go.Proofs.YtgaiheojlmebaaaDoor
