/- Walks: the reference holds nodes and recipes against each other. -/
import Derived.Test.YtgcfjkfipkfijaaGreatDoorM45
namespace Go.Proofs.YtgcfjkfipkfijaaGreatDoor
open Go Go.RowKit Go.Lib

set_option maxHeartbeats 16000000 in
set_option maxRecDepth 100000 in
open Classical in
theorem xnode_any {P Q : Nat → Prop} (x y : Nd) (kA : Option Addr) (kc : Nat) (uA : Option Addr) (uc : Nat) (gA : Option Addr) (gc : Nat) (eA : Option Addr) (ec : Nat) (kA' : Option Addr) (kc' : Nat) (uA' : Option Addr) (uc' : Nat) (gA' : Option Addr) (gc' : Nat) (eA' : Option Addr) (ec' : Nat) (w : World)
    (ha : NdF P w x kA kc uA uc gA gc eA ec) (hb : NdF Q w y kA' kc' uA' uc' gA' gc' eA' ec') :
    Calls Tryz.prog 39 #[ndV x kA kc uA uc gA gc eA ec, ndV y kA' kc' uA' uc' gA' gc' eA' ec'] w fun r w' => r = .returned (.bool (decide (x = y))) ∧ Below w.heap.size w w' := by
  obtain ⟨k, ki, us, nm, al, e⟩ := x
  obtain ⟨k', ki', us', nm', al', e'⟩ := y
  obtain ⟨R, hR⟩ : ∃ q, decide ((⟨k, ki, us, nm, al, e⟩ : Nd) = ⟨k', ki', us', nm', al', e'⟩) = q := ⟨_, rfl⟩
  rw [hR]
  have hR0 : R = true ↔ k = k' ∧ ki = ki' ∧ us = us' ∧ nm = nm' ∧ al = al' ∧ e = e' := by
    rw [← hR, decide_eq_true_iff]
    simp only [Nd.mk.injEq]
  have hkm := (ha.kids.2 [] (by simp)).1
  have hkm' := (hb.kids.2 [] (by simp)).1
  have hgm := (ha.args.2 [] (by simp)).1
  have hgm' := (hb.args.2 [] (by simp)).1
  have hkc := ha.kids.1
  have hkc' := hb.kids.1
  have hgc := ha.args.1
  have hgc' := hb.args.1
  simp only at hkm hkm' hgm hgm' hkc hkc' hgc hgc'
  obtain ⟨m, hm⟩ : ∃ n, ki.length = n := ⟨_, rfl⟩
  obtain ⟨m', hm'⟩ : ∃ n, ki'.length = n := ⟨_, rfl⟩
  obtain ⟨n, hn⟩ : ∃ n, al.length = n := ⟨_, rfl⟩
  obtain ⟨n', hn'⟩ : ∃ n, al'.length = n := ⟨_, rfl⟩
  show Calls Tryz.prog 39 #[.agg #[.int .i64 k, .slice kA ki.length kc, .slice uA us.length uc, .string nm, .slice gA al.length gc, .int .i64 e.op, .int .i64 e.n, .string e.name, .slice eA e.kids.length ec], .agg #[.int .i64 k', .slice kA' ki'.length kc', .slice uA' us'.length uc', .string nm', .slice gA' al'.length gc', .int .i64 e'.op, .int .i64 e'.n, .string e'.name, .slice eA' e'.kids.length ec']] w _
  obtain ⟨w0, hw0, hal, hx, hy⟩ := two_box (w := w) (cs := #[.int .i64 k, .slice kA ki.length kc, .slice uA us.length uc, .string nm, .slice gA al.length gc, .int .i64 e.op, .int .i64 e.n, .string e.name, .slice eA e.kids.length ec])
    (ds := #[.int .i64 k', .slice kA' ki'.length kc', .slice uA' us'.length uc', .string nm', .slice gA' al'.length gc', .int .i64 e'.op, .int .i64 e'.n, .string e'.name, .slice eA' e'.kids.length ec']) (t := 43) (u := 43)
  have H : Hid (RowF (Kind.int .i64) P w kA kc ki ∧ RowF (Kind.int .i64) Q w kA' kc' ki' ∧ RowF arK P w gA gc al ∧ RowF arK Q w gA' gc' al' ∧ ki.length = m ∧ ki'.length = m' ∧ al.length = n ∧ al'.length = n') := Lib.hid ⟨ha.kids, hb.kids, ha.args, hb.args, hm, hm', hn, hn'⟩
  have HT : Hid (∀ W, Below w.heap.size w W → Calls Tryz.prog 16 #[.slice uA us.length uc, .slice uA' us'.length uc'] W fun r w' => r = .returned (.bool (decide (us = us'))) ∧ Below W.heap.size W w') := Lib.hid (fun W hW => xtexts_any (ha.units.below hW) (hb.units.below hW))
  have HE : Hid (∀ W, Below w.heap.size w W → Calls Tryz.prog 64 #[exV e eA ec, exV e' eA' ec'] W fun r w' => r = .returned (.bool (decide (e = e'))) ∧ Below W.heap.size W w') := Lib.hid (fun W hW => xeq_any e e' eA ec eA' ec' W (ha.ex.below hW) (hb.ex.below hW))
  have HX := Lib.hid hx
  have HY := Lib.hid hy
  have HW0 := Lib.hid hw0
  have HAL := Lib.hid hal
  have HR := Lib.hid hR0
  simp only [hm, hm', hn, hn'] at hkm hkm' hgm hgm' hkc hkc' hgc hgc' hx hy HX HY HW0 ⊢
  obtain ⟨⟨x0, x1, x2, x3, x4⟩, x5, x6, x7, x8⟩ := nd9 hx
  obtain ⟨⟨y0, y1, y2, y3, y4⟩, y5, y6, y7, y8⟩ := nd9 hy
  have hlx := blk_lt hx
  have hly := blk_lt hy
  clear ha hb hx hy hw0 hal hR hR0 hm hm' hn hn'
  by_cases he : k = k' ∧ nm = nm' ∧ m = m' ∧ n = n'
  · obtain ⟨rfl, rfl, rfl, rfl⟩ := he
    go_enter Tryz.func39, Tryz.ntmps39
    go_wp2_with fail
    rw [HW0.out]
    go_loopg [5] (m + 1) (fun q s5 w' => ∃ j : Nat, s5 = .int .i64 j ∧ j ≤ m ∧ m - j < q ∧ ki.take j = ki'.take j ∧ Below w0.heap.size w0 w')
    case atStart => exact ⟨0, rfl, by omega, by omega, by simp, Below.refl _ _⟩
    case round =>
      obtain ⟨j, rfl, hj, hjk, htk, hbw⟩ := hrel
      obtain ⟨gk, rfl⟩ : ∃ k, gk = k + 1 := ⟨gk - 1, by omega⟩
      clear x0 x1 x2 x3 x4 x5 x6 x7 x8 y0 y1 y2 y3 y4 y5 y6 y7 y8 hlx hly
      have hxr := (hbw.block _ (blk_lt HX.out)).trans HX.out
      have hyr := (hbw.block _ (blk_lt HY.out)).trans HY.out
      obtain ⟨⟨x0, x1, x2, x3, x4⟩, x5, x6, x7, x8⟩ := nd9 hxr
      obtain ⟨⟨y0, y1, y2, y3, y4⟩, y5, y6, y7, y8⟩ := nd9 hyr
      have hlx := blk_lt hxr
      have hly := blk_lt hyr
      have hS : Below w.heap.size w wr := HAL.out.trans (hbw.mono HAL.out.size)
      by_cases hlt : j < m
      · have hix : j < ki.length := by rw [H.out.2.2.2.2.1]; exact hlt
        have hiy : j < ki'.length := by rw [H.out.2.2.2.2.2.1]; exact hlt
        obtain ⟨ad, rfl, c0, hcl⟩ := int_some (H.out.1.below hS) j hix
        obtain ⟨bd, rfl, d0, hdl⟩ := int_some (H.out.2.1.below hS) j hiy
        obtain ⟨a, haa⟩ : ∃ x, ki[j] = x := ⟨_, rfl⟩
        obtain ⟨b, hbb⟩ : ∃ x, ki'[j] = x := ⟨_, rfl⟩
        have HS := Lib.hid (⟨hix, hiy, haa, hbb, htk, hbw, hS⟩ : ∃ (h1 : j < ki.length) (h2 : j < ki'.length), ki[j] = a ∧ ki'[j] = b ∧ ki.take j = ki'.take j ∧ Below w0.heap.size w0 wr ∧ Below w.heap.size w wr)
        rw [haa] at c0
        rw [hbb] at d0
        have hz : (j : Int) < m := by omega
        have hz0 : (0 : Int) ≤ j := by omega
        clear htk hbw hxr hyr haa hbb hS hix hiy
        by_cases hab : a = b
        · subst hab
          go_wp2_with fail
          go_region
          all_goals
            go_wp2_with fail
            go_roundg gk
            case measure => omega
            case rel =>
              obtain ⟨h1, h2, e1, e2, h4, h5, _⟩ := HS.out
              exact ⟨j + 1, by go_num, by omega, by omega, take_next h1 h2 h4 (e1.trans e2.symm), h5.drew⟩
        · have t1 := beqf hab
          have t2 := bne_of t1
          have HF : Hid (R = false) := Lib.hid (by
            obtain ⟨h1, h2, e1, e2, _⟩ := HS.out
            refine Bool.eq_false_iff.2 (fun hc => ?_)
            have := (HR.out.1 hc).2.1
            exact ne_at h1 h2 (fun e => hab (by rw [← e1, ← e2, e])) this)
          clear hab
          go_wp2_with fail
          go_region
          all_goals
            go_wp2_with fail
            go_ret
            obtain ⟨_, _, _, _, _, _, h6⟩ := HS.out
            exact ⟨by rw [HF.out]; rfl, h6.drew⟩
      · obtain rfl : j = m := by omega
        have HK := Lib.hid (take_eq H.out.2.2.2.2.1 H.out.2.2.2.2.2.1 htk rfl)
        have HB := Lib.hid hbw
        clear htk hbw hxr hyr hS
        go_wp2_with fail
        clear x0 x1 x2 x3 x4 x5 x6 x7 x8 y0 y1 y2 y3 y4 y5 y6 y7 y8 hlx hly
        go_loopg [6] (n + 1) (fun q s6 w' => ∃ i : Nat, s6 = .int .i64 i ∧ i ≤ n ∧ n - i < q ∧ al.take i = al'.take i ∧ Below w0.heap.size w0 w')
        case atStart => exact ⟨0, rfl, by omega, by omega, by simp, HB.out⟩
        case round =>
          obtain ⟨i, rfl, hi, hik, htk, hbw⟩ := hrel
          obtain ⟨gi, rfl⟩ : ∃ k, gk = k + 1 := ⟨gk - 1, by omega⟩
          have hxr := (hbw.block _ (blk_lt HX.out)).trans HX.out
          have hyr := (hbw.block _ (blk_lt HY.out)).trans HY.out
          obtain ⟨⟨x0, x1, x2, x3, x4⟩, x5, x6, x7, x8⟩ := nd9 hxr
          obtain ⟨⟨y0, y1, y2, y3, y4⟩, y5, y6, y7, y8⟩ := nd9 hyr
          have hlx := blk_lt hxr
          have hly := blk_lt hyr
          have hS : Below w.heap.size w wr := HAL.out.trans (hbw.mono HAL.out.size)
          by_cases hlt : i < n
          · have hix : i < al.length := by rw [H.out.2.2.2.2.2.2.1]; exact hlt
            have hiy : i < al'.length := by rw [H.out.2.2.2.2.2.2.2]; exact hlt
            have hR1 := H.out.2.2.1.below hS
            have hR2 := H.out.2.2.2.1.below hS
            obtain ⟨ad, rfl⟩ := row_ad hR1 i hix
            obtain ⟨bd, rfl⟩ := row_ad hR2 i hiy
            obtain ⟨uA', uc'', c0, c1, c2, c3, c4, hux, hul⟩ := ar_some hR1 i hix
            obtain ⟨vA', vc'', d0, d1, d2, d3, d4, hvx, hvl⟩ := ar_some hR2 i hiy
            obtain ⟨a, haa⟩ : ∃ x, al[i] = x := ⟨_, rfl⟩
            obtain ⟨b, hbb⟩ : ∃ x, al'[i] = x := ⟨_, rfl⟩
            rw [haa] at c0 c1 c2 c3 c4 hux
            rw [hbb] at d0 d1 d2 d3 d4 hvx
            obtain ⟨an, ae⟩ := a
            obtain ⟨bn, be⟩ := b
            simp only at c0 c1 c2 c3 c4 hux d0 d1 d2 d3 d4 hvx
            have HC : Hid (∀ W, Below wr.heap.size wr W → _) := Lib.hid (fun W hW => xeq_any ae be uA' uc'' vA' vc'' W (hux.below hW) (hvx.below hW))
            obtain ⟨t, ht⟩ : ∃ q, decide (ae = be) = q := ⟨_, rfl⟩
            simp only [ht] at HC
            have HS := Lib.hid (⟨hix, hiy, haa, hbb, htk, hbw, hS, ht, hxr, hyr, hR1, hR2⟩ : ∃ (h1 : i < al.length) (h2 : i < al'.length), al[i] = ⟨an, ae⟩ ∧ al'[i] = ⟨bn, be⟩ ∧ al.take i = al'.take i ∧ Below w0.heap.size w0 wr ∧ Below w.heap.size w wr ∧ decide (ae = be) = t ∧ _ ∧ _ ∧ RowF arK P wr (some ad) gc al ∧ RowF arK Q wr (some bd) gc' al')
            have hz : (i : Int) < n := by omega
            have hz0 : (0 : Int) ≤ i := by omega
            clear hux hvx hR1 hR2 htk hbw hxr hyr haa hbb hS ht hix hiy
            go_wp2_with fail
            go_cut [7] (fun s7 wx => s7 = .bool t ∧ Below wr.heap.size wr wx)
            case first =>
              go_region_with ((go_at_call 64; refine (HC.out _ ?_).mono ?_; (first | exact Below.refl _ _ | exact (Below.refl _ _).drew); rintro r w5 ⟨rfl, hb5⟩; have HB5 := Lib.hid hb5; clear hb5))
              all_goals
                go_wp2_with fail
                go_meet
                exact ⟨rfl, by first | exact HB5.out | exact (Below.refl _ _).drew.trans HB5.out⟩
            case rest =>
              obtain ⟨rfl, hbx⟩ := hcut
              clear c0 c1 c2 c3 c4 d0 d1 d2 d3 d4 x0 x1 x2 x3 x4 x5 x6 x7 x8 y0 y1 y2 y3 y4 y5 y6 y7 y8 hul hvl
              have x4 := (hbx.cell (p := ⟨w.heap.size, 4, none⟩) hlx).trans (by obtain ⟨_, _, _, _, _, _, _, _, hx, _⟩ := HS.out; exact (nd9 hx).1.2.2.2.2)
              have y4 := (hbx.cell (p := ⟨w.heap.size + 1, 4, none⟩) hly).trans (by obtain ⟨_, _, _, _, _, _, _, _, _, hy, _⟩ := HS.out; exact (nd9 hy).1.2.2.2.2)
              have hlx' := Nat.lt_of_lt_of_le hlx hbx.size
              have hly' := Nat.lt_of_lt_of_le hly hbx.size
              have HBX := Lib.hid hbx
              obtain ⟨hi1, hi2, ea, eb, hr1, hr2⟩ : ∃ (h1 : i < al.length) (h2 : i < al'.length), al[i] = ⟨an, ae⟩ ∧ al'[i] = ⟨bn, be⟩ ∧ RowF arK P wr (some ad) gc al ∧ RowF arK Q wr (some bd) gc' al' := by
                obtain ⟨h1, h2, h3, h4, _, _, _, _, _, _, h5, h6⟩ := HS.out
                exact ⟨h1, h2, h3, h4, h5, h6⟩
              obtain ⟨_, _, c0, _, _, _, _, hq1, hul⟩ := ar_some (hr1.below hbx) i hi1
              obtain ⟨_, _, d0, _, _, _, _, hq2, hvl⟩ := ar_some (hr2.below hbx) i hi2
              rw [ea] at c0
              rw [eb] at d0
              simp only at c0 d0
              have fin : Hid (Below w.heap.size w wr ∧ Below w0.heap.size w0 wr) := Lib.hid (by obtain ⟨_, _, _, _, _, h5, h6, _⟩ := HS.out; exact ⟨h6, h5⟩)
              clear ea eb hr1 hr2 hq1 hq2 hbx
              cases t
              · have HF : Hid (R = false) := Lib.hid (by
                  obtain ⟨h1, h2, e1, e2, _, _, _, h8, _⟩ := HS.out
                  refine Bool.eq_false_iff.2 (fun hc => ?_)
                  refine ne_at h1 h2 (fun e => of_decide_eq_false h8 ?_) (HR.out.1 hc).2.2.2.2.1
                  rw [e1, e2] at e
                  injection e)
                go_wp2_with fail
                go_region
                all_goals
                  go_wp2_with fail
                  go_ret
                  exact ⟨by rw [HF.out]; rfl, by first | exact (fin.out.1.trans (HBX.out.mono fin.out.1.size)).drew | exact fin.out.1.trans (HBX.out.mono fin.out.1.size)⟩
              · by_cases hnn : an = bn
                · subst hnn
                  go_wp2_with fail
                  go_region
                  all_goals
                    go_wp2_with fail
                    go_roundg gi
                    case measure => omega
                    case rel =>
                      obtain ⟨h1, h2, e1, e2, h4, h5, _, h8, _⟩ := HS.out
                      refine ⟨i + 1, by go_num, by omega, by omega, take_next h1 h2 h4 (by rw [e1, e2, of_decide_eq_true h8]), ?_⟩
                      first | exact (h5.trans (HBX.out.mono h5.size)).drew | exact h5.trans (HBX.out.mono h5.size)
                · obtain ⟨t1, t3⟩ := str_ne hnn
                  have t2 := bne_of t1
                  have t4 := bne_of t3
                  have HF : Hid (R = false) := Lib.hid (by
                    obtain ⟨h1, h2, e1, e2, _⟩ := HS.out
                    refine Bool.eq_false_iff.2 (fun hc => ?_)
                    refine ne_at h1 h2 (fun e => hnn ?_) (HR.out.1 hc).2.2.2.2.1
                    rw [e1, e2] at e
                    injection e)
                  clear hnn
                  go_wp2_with fail
                  go_region
                  all_goals
                    go_wp2_with fail
                    go_ret
                    exact ⟨by rw [HF.out]; rfl, by first | exact (fin.out.1.trans (HBX.out.mono fin.out.1.size)).drew | exact fin.out.1.trans (HBX.out.mono fin.out.1.size)⟩
          · obtain rfl : i = n := by omega
            have HG := Lib.hid (take_eq H.out.2.2.2.2.2.2.1 H.out.2.2.2.2.2.2.2 htk rfl)
            have HB2 := Lib.hid (⟨hbw, hS, hxr, hyr⟩ : _ ∧ _ ∧ _ ∧ _)
            clear htk hbw hxr hyr hS
            go_wp2_with fail
            refine (HT.out _ HB2.out.2.1).mono ?_
            rintro r w3 ⟨rfl, hb3⟩
            obtain ⟨q1, hq1⟩ : ∃ q, decide (us = us') = q := ⟨_, rfl⟩
            rw [hq1]
            have HB3 := Lib.hid (⟨HB2.out.2.1.trans (hb3.mono HB2.out.2.1.size), (hb3.block _ hlx).trans HB2.out.2.2.1, (hb3.block _ hly).trans HB2.out.2.2.2, hq1⟩ : _ ∧ _ ∧ _ ∧ _)
            clear hb3 hq1 x0 x1 x2 x3 x4 x5 x6 x7 x8 y0 y1 y2 y3 y4 y5 y6 y7 y8 hlx hly
            obtain ⟨_, x5, x6, x7, x8⟩ := nd9 HB3.out.2.1
            obtain ⟨_, y5, y6, y7, y8⟩ := nd9 HB3.out.2.2.1
            have hlx := blk_lt HB3.out.2.1
            have hly := blk_lt HB3.out.2.2.1
            go_wp2_with fail
            refine (HE.out _ HB3.out.1).mono ?_
            rintro r w4 ⟨rfl, hb4⟩
            obtain ⟨q2, hq2⟩ : ∃ q, decide (e = e') = q := ⟨_, rfl⟩
            rw [hq2]
            have HB4 := Lib.hid (⟨HB3.out.1.trans (hb4.mono HB3.out.1.size), hq2⟩ : _ ∧ _)
            have HF : Hid (R = (q1 && q2)) := Lib.hid (by
              rw [Bool.eq_iff_iff, HR.out, ← HB3.out.2.2.2, ← hq2]
              simp only [Bool.and_eq_true, decide_eq_true_eq]
              exact ⟨fun h => ⟨h.2.2.1, h.2.2.2.2.2⟩, fun h => ⟨trivial, HK.out, h.1, trivial, HG.out, h.2⟩⟩)
            clear hb4 hq2 x5 x6 x7 x8 y5 y6 y7 y8 hlx hly
            cases q1
            · go_wp2_with fail
              go_ret
              exact ⟨by rw [HF.out]; rfl, HB4.out.1⟩
            · go_wp2_with fail
              go_ret
              exact ⟨by rw [HF.out]; rfl, HB4.out.1⟩
  · have HQ : Hid (R = false) := Lib.hid (Bool.eq_false_iff.2 (fun hc => he (by
      obtain ⟨h1, h2, _, h4, h5, _⟩ := HR.out.1 hc
      exact ⟨h1, h4, by rw [← H.out.2.2.2.2.1, ← H.out.2.2.2.2.2.1, h2], by rw [← H.out.2.2.2.2.2.2.1, ← H.out.2.2.2.2.2.2.2, h5]⟩)))
    have key : (k == k') = false ∨ k = k' ∧ ((nm.data.toList == nm'.data.toList) = false ∧ (nm.toList == nm'.toList) = false ∨ nm = nm' ∧ (((m : Int) == m') = false ∨ m = m' ∧ ((n : Int) == n') = false)) := by
      by_cases e1 : k = k'
      · refine .inr ⟨e1, ?_⟩
        by_cases e2 : nm = nm'
        · refine .inr ⟨e2, ?_⟩
          by_cases e3 : m = m'
          · exact .inr ⟨e3, beqf (fun e4 => he ⟨e1, e2, e3, by omega⟩)⟩
          · exact .inl (beqf (by omega))
        · exact .inl (str_ne e2)
      · exact .inl (beqf e1)
    rcases key with t1 | ⟨rfl, ⟨t1, t3⟩ | ⟨rfl, t1 | ⟨rfl, t1⟩⟩⟩
    all_goals
      have t2 := bne_of t1
      clear he
      go_enter Tryz.func39, Tryz.ntmps39
      go_wp2_with fail
      rw [HW0.out]
      go_ret
      exact ⟨by rw [HQ.out]; rfl, HAL.out⟩
end Go.Proofs.YtgcfjkfipkfijaaGreatDoor
