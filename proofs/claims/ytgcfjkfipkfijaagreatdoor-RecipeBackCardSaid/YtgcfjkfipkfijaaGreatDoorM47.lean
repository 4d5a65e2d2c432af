/- Walks: the reference's Same of recipes; the law that a recipe's text is that recipe. -/
import Derived.Test.YtgcfjkfipkfijaaGreatDoorM46
import Derived.Test.YtgcfjkfipkfijaaGreatDoorM44
import Derived.Test.YtgcfjkfipkfijaaGreatDoorM41
namespace Go.Proofs.YtgcfjkfipkfijaaGreatDoor
open Go Go.RowKit Go.Lib

theorem recP_at (t : ByteArray) (h : (recP t).2.1 = 0) : (recP t).2.2 = 0 := by
  unfold recP at h ⊢
  simp only at h ⊢
  split at h
  · rename_i hc; exact absurd h hc
  · rename_i hc
    rw [if_neg hc]
    split at h
    · rename_i hd; exact absurd h hd
    · rename_i hd
      rw [if_neg hd]
set_option maxHeartbeats 16000000 in
set_option maxRecDepth 100000 in
open Classical in
theorem xsame_any {P Q : Nat → Prop} (x y : Rec) (pA : Option Addr) (pc : Nat) (nA : Option Addr) (nc : Nat) (pA' : Option Addr) (pc' : Nat) (nA' : Option Addr) (nc' : Nat) (w : World) (ha : RecF P w x pA pc nA nc) (hb : RecF Q w y pA' pc' nA' nc') :
    Calls Tryz.prog 11 #[recV x pA pc nA nc, recV y pA' pc' nA' nc'] w fun r w' => r = .returned (.bool (decide (x = y))) ∧ Below w.heap.size w w' := by
  obtain ⟨nm, ps, ns⟩ := x
  obtain ⟨nm', ps', ns'⟩ := y
  obtain ⟨R, hR⟩ : ∃ q, decide ((⟨nm, ps, ns⟩ : Rec) = ⟨nm', ps', ns'⟩) = q := ⟨_, rfl⟩
  rw [hR]
  have hR0 : R = true ↔ nm = nm' ∧ ps = ps' ∧ ns = ns' := by
    rw [← hR, decide_eq_true_iff]
    simp only [Rec.mk.injEq]
  have hpm := (ha.prms.2 [] (by simp)).1
  have hpm' := (hb.prms.2 [] (by simp)).1
  have hnm := (ha.nds.2 [] (by simp)).1
  have hnm' := (hb.nds.2 [] (by simp)).1
  have hpc := ha.prms.1
  have hpc' := hb.prms.1
  have hnc := ha.nds.1
  have hnc' := hb.nds.1
  simp only at hpm hpm' hnm hnm' hpc hpc' hnc hnc'
  obtain ⟨m, hm⟩ : ∃ n, ps.length = n := ⟨_, rfl⟩
  obtain ⟨m', hm'⟩ : ∃ n, ps'.length = n := ⟨_, rfl⟩
  obtain ⟨n, hn⟩ : ∃ n, ns.length = n := ⟨_, rfl⟩
  obtain ⟨n', hn'⟩ : ∃ n, ns'.length = n := ⟨_, rfl⟩
  show Calls Tryz.prog 11 #[.agg #[.string nm, .slice pA ps.length pc, .slice nA ns.length nc], .agg #[.string nm', .slice pA' ps'.length pc', .slice nA' ns'.length nc']] w _
  obtain ⟨w0, hw0, hal, hx, hy⟩ := two_box (w := w) (cs := #[.string nm, .slice pA ps.length pc, .slice nA ns.length nc]) (ds := #[.string nm', .slice pA' ps'.length pc', .slice nA' ns'.length nc']) (t := 26) (u := 26)
  have H : Hid (RowF prmK P w pA pc ps ∧ RowF prmK Q w pA' pc' ps' ∧ RowF ndK P w nA nc ns ∧ RowF ndK Q w nA' nc' ns' ∧ ps.length = m ∧ ps'.length = m' ∧ ns.length = n ∧ ns'.length = n') := Lib.hid ⟨ha.prms, hb.prms, ha.nds, hb.nds, hm, hm', hn, hn'⟩
  have HX := Lib.hid hx
  have HY := Lib.hid hy
  have HW0 := Lib.hid hw0
  have HAL := Lib.hid hal
  have HR := Lib.hid hR0
  simp only [hm, hm', hn, hn'] at hpm hpm' hnm hnm' hpc hpc' hnc hnc' hx hy HX HY HW0 ⊢
  obtain ⟨⟨x0, x1, x2⟩, _⟩ := blk3' hx
  obtain ⟨⟨y0, y1, y2⟩, _⟩ := blk3' hy
  have hlx := blk_lt hx
  have hly := blk_lt hy
  clear ha hb hx hy hw0 hal hR hR0 hm hm' hn hn'
  by_cases he : nm = nm' ∧ m = m' ∧ n = n'
  · obtain ⟨rfl, rfl, rfl⟩ := he
    go_enter Tryz.func11, Tryz.ntmps11
    go_wp2_with fail
    rw [HW0.out]
    go_loopg [5] (m + 1) (fun q s5 w' => ∃ j : Nat, s5 = .int .i64 j ∧ j ≤ m ∧ m - j < q ∧ ps.take j = ps'.take j ∧ Below w0.heap.size w0 w')
    case atStart => exact ⟨0, rfl, by omega, by omega, by simp, Below.refl _ _⟩
    case round =>
      obtain ⟨j, rfl, hj, hjk, htk, hbw⟩ := hrel
      obtain ⟨gk, rfl⟩ : ∃ k, gk = k + 1 := ⟨gk - 1, by omega⟩
      clear x0 x1 x2 y0 y1 y2 hlx hly
      have hxr := (hbw.block _ (blk_lt HX.out)).trans HX.out
      have hyr := (hbw.block _ (blk_lt HY.out)).trans HY.out
      obtain ⟨⟨x0, x1, x2⟩, _⟩ := blk3' hxr
      obtain ⟨⟨y0, y1, y2⟩, _⟩ := blk3' hyr
      have hlx := blk_lt hxr
      have hly := blk_lt hyr
      have hS : Below w.heap.size w wr := HAL.out.trans (hbw.mono HAL.out.size)
      by_cases hlt : j < m
      · have hix : j < ps.length := by rw [H.out.2.2.2.2.1]; exact hlt
        have hiy : j < ps'.length := by rw [H.out.2.2.2.2.2.1]; exact hlt
        obtain ⟨ad, rfl, c0, c1, c2, hcl⟩ := prm_some (H.out.1.below hS) j hix
        obtain ⟨bd, rfl, d0, d1, d2, hdl⟩ := prm_some (H.out.2.1.below hS) j hiy
        obtain ⟨a, haa⟩ : ∃ x, ps[j] = x := ⟨_, rfl⟩
        obtain ⟨b, hbb⟩ : ∃ x, ps'[j] = x := ⟨_, rfl⟩
        have HS := Lib.hid (⟨hix, hiy, haa, hbb, htk, hbw, hS⟩ : ∃ (h1 : j < ps.length) (h2 : j < ps'.length), ps[j] = a ∧ ps'[j] = b ∧ ps.take j = ps'.take j ∧ Below w0.heap.size w0 wr ∧ Below w.heap.size w wr)
        rw [haa] at c0 c1 c2
        rw [hbb] at d0 d1 d2
        obtain ⟨xn, xi, xs'⟩ := a
        obtain ⟨yn, yi, ys'⟩ := b
        simp only at c0 c1 c2 d0 d1 d2
        have hz : (j : Int) < m := by omega
        have hz0 : (0 : Int) ≤ j := by omega
        clear htk hbw hxr hyr haa hbb hS hix hiy
        by_cases hxy : (⟨xn, xi, xs'⟩ : Prm) = ⟨yn, yi, ys'⟩
        · injection hxy with e1 e2 e3
          subst e1 e2 e3
          go_wp2_with fail
          go_region
          all_goals
            go_wp2_with fail
            go_roundg gk
            case measure => omega
            case rel =>
              obtain ⟨h1, h2, e1, e2, h4, h5, _⟩ := HS.out
              exact ⟨j + 1, by go_num, by omega, by omega, take_next h1 h2 h4 (e1.trans e2.symm), h5.drew⟩
        · have HF : Hid (R = false) := Lib.hid (by
            obtain ⟨h1, h2, e1, e2, _⟩ := HS.out
            refine Bool.eq_false_iff.2 (fun hc => ?_)
            exact ne_at h1 h2 (fun e => hxy (by rw [← e1, ← e2, e])) (HR.out.1 hc).2.1)
          have fin : Hid (Below w.heap.size w wr) := Lib.hid (by obtain ⟨_, _, _, _, _, _, h6⟩ := HS.out; exact h6)
          by_cases q1 : xn = yn
          · subst q1
            by_cases q2 : xi = yi
            · subst q2
              have q3 : ¬ xs' = ys' := fun e => hxy (by rw [e])
              clear hxy
              go_wp2_with fail
              go_region
              all_goals
                go_wp2_with fail
                go_ret
                exact ⟨by rw [HF.out]; rfl, fin.out.drew⟩
            · clear hxy
              go_wp2_with fail
              go_region
              all_goals
                go_wp2_with fail
                go_ret
                exact ⟨by rw [HF.out]; rfl, fin.out.drew⟩
          · have q4 : ¬ xn.toList = yn.toList := fun e => q1 (by
              rw [Lib.toList_data, Lib.toList_data] at e
              exact ByteArray.ext (Array.toList_inj.1 e))
            clear hxy
            go_wp2_with fail
            go_region
            all_goals
              go_wp2_with fail
              go_ret
              exact ⟨by rw [HF.out]; rfl, fin.out.drew⟩
      · obtain rfl : j = m := by omega
        have HK := Lib.hid (take_eq H.out.2.2.2.2.1 H.out.2.2.2.2.2.1 htk rfl)
        have HB := Lib.hid hbw
        clear htk hbw hxr hyr hS
        go_wp2_with fail
        clear x0 x1 x2 y0 y1 y2 hlx hly
        go_loopg [6] (n + 1) (fun q s6 w' => ∃ i : Nat, s6 = .int .i64 i ∧ i ≤ n ∧ n - i < q ∧ ns.take i = ns'.take i ∧ Below w0.heap.size w0 w')
        case atStart => exact ⟨0, rfl, by omega, by omega, by simp, HB.out⟩
        case round =>
          obtain ⟨i, rfl, hi, hik, htk, hbw⟩ := hrel
          obtain ⟨gi, rfl⟩ : ∃ k, gk = k + 1 := ⟨gk - 1, by omega⟩
          have hxr := (hbw.block _ (blk_lt HX.out)).trans HX.out
          have hyr := (hbw.block _ (blk_lt HY.out)).trans HY.out
          obtain ⟨⟨x0, x1, x2⟩, _⟩ := blk3' hxr
          obtain ⟨⟨y0, y1, y2⟩, _⟩ := blk3' hyr
          have hlx := blk_lt hxr
          have hly := blk_lt hyr
          have hS : Below w.heap.size w wr := HAL.out.trans (hbw.mono HAL.out.size)
          by_cases hlt : i < n
          · have hix : i < ns.length := by rw [H.out.2.2.2.2.2.2.1]; exact hlt
            have hiy : i < ns'.length := by rw [H.out.2.2.2.2.2.2.2]; exact hlt
            have hR1 := H.out.2.2.1.below hS
            have hR2 := H.out.2.2.2.1.below hS
            obtain ⟨ad, rfl⟩ := row_ad hR1 i hix
            obtain ⟨bd, rfl⟩ := row_ad hR2 i hiy
            obtain ⟨ukA, ukc, uuA, uuc, ugA, ugc, ueA, uec, ⟨c0, c1, c2, c3, c4, c5, c6, c7, c8⟩, hu1, hu2, hu3, hu4, hul⟩ := nd_some hR1 i hix
            obtain ⟨vkA, vkc, vuA, vuc, vgA, vgc, veA, vec, ⟨d0, d1, d2, d3, d4, d5, d6, d7, d8⟩, hv1, hv2, hv3, hv4, hvl⟩ := nd_some hR2 i hiy
            obtain ⟨a, haa⟩ : ∃ x, ns[i] = x := ⟨_, rfl⟩
            obtain ⟨b, hbb⟩ : ∃ x, ns'[i] = x := ⟨_, rfl⟩
            rw [haa] at c0 c1 c2 c3 c4 c5 c6 c7 c8 hu1 hu2 hu3 hu4
            rw [hbb] at d0 d1 d2 d3 d4 d5 d6 d7 d8 hv1 hv2 hv3 hv4
            have HC : Hid (∀ W, Below wr.heap.size wr W → _) := Lib.hid (fun W hW => xnode_any a b _ _ _ _ _ _ _ _ _ _ _ _ _ _ _ _ W (NdF.below ⟨hu1, hu2, hu3, hu4⟩ hW) (NdF.below ⟨hv1, hv2, hv3, hv4⟩ hW))
            obtain ⟨t, ht⟩ : ∃ q, decide (a = b) = q := ⟨_, rfl⟩
            simp only [ht] at HC
            have HS := Lib.hid (⟨hix, hiy, haa, hbb, htk, hbw, hS, ht⟩ : ∃ (h1 : i < ns.length) (h2 : i < ns'.length), ns[i] = a ∧ ns'[i] = b ∧ ns.take i = ns'.take i ∧ Below w0.heap.size w0 wr ∧ Below w.heap.size w wr ∧ decide (a = b) = t)
            have hz : (i : Int) < n := by omega
            have hz0 : (0 : Int) ≤ i := by omega
            clear hu1 hu2 hu3 hu4 hv1 hv2 hv3 hv4 hR1 hR2 htk hbw hxr hyr haa hbb hS ht hix hiy
            go_wp2_with fail
            go_cut [7] (fun s7 wx => s7 = .bool t ∧ Below wr.heap.size wr wx)
            case first =>
              go_region_with ((go_at_call 39; refine (HC.out _ ?_).mono ?_; (first | exact Below.refl _ _ | exact (Below.refl _ _).drew); rintro r w5 ⟨rfl, hb5⟩; have HB5 := Lib.hid hb5; clear hb5))
              all_goals
                go_wp2_with fail
                go_meet
                exact ⟨rfl, by first | exact HB5.out | exact (Below.refl _ _).drew.trans HB5.out⟩
            case rest =>
              obtain ⟨rfl, hbx⟩ := hcut
              have HBX := Lib.hid hbx
              clear hbx c0 c1 c2 c3 c4 c5 c6 c7 c8 d0 d1 d2 d3 d4 d5 d6 d7 d8 x0 x1 x2 y0 y1 y2 hlx hly hul hvl
              cases t
              · have HF : Hid (R = false) := Lib.hid (by
                  obtain ⟨h1, h2, e1, e2, _, _, _, h8⟩ := HS.out
                  refine Bool.eq_false_iff.2 (fun hc => ?_)
                  exact ne_at h1 h2 (fun e => of_decide_eq_false h8 (by rw [← e1, ← e2, e])) (HR.out.1 hc).2.2)
                have fin : Hid (Below w.heap.size w wr) := Lib.hid (by obtain ⟨_, _, _, _, _, _, h6, _⟩ := HS.out; exact h6)
                go_wp2_with fail
                go_ret
                exact ⟨by rw [HF.out]; rfl, fin.out.trans (HBX.out.mono fin.out.size)⟩
              · go_wp2_with fail
                go_roundg gi
                case measure => omega
                case rel =>
                  obtain ⟨h1, h2, e1, e2, h4, h5, _, h8⟩ := HS.out
                  exact ⟨i + 1, by go_num, by omega, by omega, take_next h1 h2 h4 (by rw [e1, e2]; exact of_decide_eq_true h8), h5.trans (HBX.out.mono h5.size)⟩
          · obtain rfl : i = n := by omega
            have HF : Hid (R = true) := Lib.hid (HR.out.2 ⟨by first | exact rfl | trivial, HK.out, take_eq H.out.2.2.2.2.2.2.1 H.out.2.2.2.2.2.2.2 htk rfl⟩)
            have HB2 := Lib.hid hS
            clear htk hbw hxr hyr hS
            go_wp2_with fail
            go_ret
            exact ⟨by rw [HF.out]; rfl, HB2.out⟩
  · have HQ : Hid (R = false) := Lib.hid (Bool.eq_false_iff.2 (fun hc => he (by
      obtain ⟨h1, h2, h3⟩ := HR.out.1 hc
      exact ⟨h1, by rw [← H.out.2.2.2.2.1, ← H.out.2.2.2.2.2.1, h2], by rw [← H.out.2.2.2.2.2.2.1, ← H.out.2.2.2.2.2.2.2, h3]⟩)))
    have key : ((nm.data.toList == nm'.data.toList) = false ∧ (nm.toList == nm'.toList) = false) ∨ nm = nm' ∧ (((m : Int) == m') = false ∨ m = m' ∧ ((n : Int) == n') = false) := by
      by_cases e2 : nm = nm'
      · refine .inr ⟨e2, ?_⟩
        by_cases e3 : m = m'
        · exact .inr ⟨e3, beqf (fun e4 => he ⟨e2, e3, by omega⟩)⟩
        · exact .inl (beqf (by omega))
      · exact .inl (str_ne e2)
    rcases key with ⟨t1, t3⟩ | ⟨rfl, t1 | ⟨rfl, t1⟩⟩
    all_goals
      have t2 := bne_of t1
      clear he
      go_enter Tryz.func11, Tryz.ntmps11
      go_wp2_with fail
      rw [HW0.out]
      go_ret
      exact ⟨by rw [HQ.out]; rfl, HAL.out⟩
set_option maxHeartbeats 16000000 in
set_option maxRecDepth 100000 in
theorem rback_any {P : Nat → Prop} (r : Rec) (pA : Option Addr) (pc : Nat) (nA : Option Addr) (nc : Nat) (w : World) (h : RecF P w r pA pc nA nc) (hr : RecOk r) (hT : Tabs w) :
    Calls Tryz.prog 4 #[recV r pA pc nA nc] w fun e w' => e = .returned (.bool true) ∧ Below w.heap.size w w' := by
  obtain ⟨w1, hw1⟩ : ∃ w1, w.alloc (.cells #[.string r.name, .slice pA r.params.length pc, .slice nA r.nodes.length nc] 26) = w1 := ⟨_, rfl⟩
  have hb1 : Below w.heap.size w w1 := hw1 ▸ (Below.refl _ _).alloc (Nat.le_refl _) _
  have hx1 : w1.heap[w.heap.size]? = some (.cells #[.string r.name, .slice pA r.params.length pc, .slice nA r.nodes.length nc] 26 (0, 0)) := hw1 ▸ heap_alloc_new _ _
  have H := Lib.hid (⟨h, hr, hT, hb1, hx1⟩ : _ ∧ _ ∧ _ ∧ _ ∧ _)
  have HW1 := Lib.hid hw1
  clear h hr hT hb1 hx1 hw1
  go_enter Tryz.func4, Tryz.ntmps4
  go_wp2_with fail
  rw [HW1.out]
  refine (rawake_any w1 (H.out.2.2.1.below H.out.2.2.2.1)).mono ?_
  rintro e w2 ⟨rfl, hb2⟩
  have H2 := Lib.hid (⟨H.out.2.2.2.1.trans (hb2.mono H.out.2.2.2.1.size), (hb2.block _ (blk_lt H.out.2.2.2.2)).trans H.out.2.2.2.2⟩ : _ ∧ _)
  clear hb2
  obtain ⟨⟨x0, x1, x2⟩, _⟩ := blk3' H2.out.2
  have hlx := blk_lt H2.out.2
  go_wp2_with fail
  refine (rlight_any r pA pc nA nc w2 (H.out.1.below H2.out.1) H.out.2.1).mono ?_
  rintro e w3 ⟨⟨b, rfl, hbn⟩, hb3⟩
  have H3 := Lib.hid (⟨H2.out.1.trans (hb3.mono H2.out.1.size), (hb3.block _ hlx).trans H2.out.2, hbn⟩ : _ ∧ _ ∧ _)
  clear hb3 hbn x0 x1 x2 hlx
  cases b with
  | false =>
    go_wp2_with fail
    go_ret
    exact ⟨rfl, H3.out.1⟩
  | true =>
    obtain ⟨⟨x0, x1, x2⟩, _⟩ := blk3' H3.out.2.1
    have hlx := blk_lt H3.out.2.1
    have HN := Lib.hid (H3.out.2.2 rfl)
    go_wp2_with fail
    refine (rmay_any r pA pc nA nc w3 (H.out.1.below H3.out.1) HN.out (H.out.2.2.1.below H3.out.1)).mono ?_
    obtain ⟨q, hq⟩ : ∃ q, mayR r = q := ⟨_, rfl⟩
    rw [hq]
    rintro e w4 ⟨rfl, hb4⟩
    have H4 := Lib.hid (⟨H3.out.1.trans (hb4.mono H3.out.1.size), (hb4.block _ hlx).trans H3.out.2.1, hq⟩ : _ ∧ _ ∧ _)
    clear hb4 x0 x1 x2 hlx hq
    cases q with
    | false =>
      go_wp2_with fail
      go_ret
      exact ⟨rfl, H4.out.1⟩
    | true =>
      obtain ⟨⟨x0, x1, x2⟩, _⟩ := blk3' H4.out.2.1
      have hlx := blk_lt H4.out.2.1
      go_wp2_with fail
      refine (rprint_any r pA pc nA nc w4 (H.out.1.below H4.out.1) HN.out (H.out.2.2.1.below H4.out.1)).mono ?_
      rintro e w5 ⟨rfl, hb5⟩
      have hpr : printR r = str (textP r).1 := by unfold printR; rw [if_pos H4.out.2.2]
      have hmy := (mayR_iff r).1 H4.out.2.2
      have hat := recP_at _ hmy.2.1
      have hrec : recP (str (textP r).1) = (r, 0, 0) := by
        obtain ⟨⟨a, b, c⟩, hh⟩ : ∃ p, recP (str (textP r).1) = p := ⟨_, rfl⟩
        rw [hh] at hmy hat ⊢
        simp only at hmy hat
        rw [hmy.2.2, hmy.2.1, hat]
      have hlen : (str (textP r).1).size ≤ 9223372036854775806 := by
        have h1 := rtext_len HN.out
        rw [str_size]
        omega
      have H5 := Lib.hid (⟨H4.out.1.trans (hb5.mono H4.out.1.size), (hb5.block _ hlx).trans H4.out.2.1⟩ : _ ∧ _)
      have HPA := Lib.hid (rparse_any (str (textP r).1) w5 (H.out.2.2.1.below H5.out.1) hlen)
      rw [hrec] at HPA
      rw [hpr]
      clear hb5 x0 x1 x2 hlx hpr hmy hat hrec hlen
      go_wp2_with fail
      refine HPA.out.mono ?_
      rintro e w6 ⟨pA', pc', nA', nc', rfl, hp6, hn6, hb6⟩
      simp only at hp6 hn6
      obtain ⟨w7, hw7⟩ : ∃ w', w6.alloc (.cells #[.string r.name, .slice pA' r.params.length pc', .slice nA' r.nodes.length nc'] 26) = w' := ⟨_, rfl⟩
      have hb7 : Below w6.heap.size w6 w7 := hw7 ▸ (Below.refl _ _).alloc (Nat.le_refl _) _
      have hy7 : w7.heap[w6.heap.size]? = some (.cells #[.string r.name, .slice pA' r.params.length pc', .slice nA' r.nodes.length nc'] 26 (0, 0)) := hw7 ▸ heap_alloc_new _ _
      have hb57 := hb6.trans (hb7.mono hb6.size)
      have hx7 := (hb57.block _ (blk_lt H5.out.2)).trans H5.out.2
      have hb07 := H5.out.1.trans (hb57.mono H5.out.1.size)
      have hS := xsame_any r r pA' pc' nA' nc' pA pc nA nc w7 (RecF.below ⟨hp6, hn6⟩ hb7) (H.out.1.below hb07)
      rw [@decide_eq_true (r = r) (Classical.propDecidable _) rfl] at hS
      have HS := Lib.hid hS
      have HB7 := Lib.hid hb07
      have HW7 := Lib.hid hw7
      obtain ⟨⟨x0, x1, x2⟩, _⟩ := blk3' hx7
      obtain ⟨⟨y0, y1, y2⟩, _⟩ := blk3' hy7
      have hlx := blk_lt hx7
      have hly := blk_lt hy7
      clear hp6 hn6 hb6 hb7 hw7 hy7 hb57 hx7 hb07 hS
      go_upto_region 6 with fail
      rw [HW7.out]
      go_wp2_with fail
      refine HS.out.mono ?_
      rintro e w8 ⟨rfl, hb8⟩
      have H8 := Lib.hid (HB7.out.trans (hb8.mono HB7.out.size))
      clear hb8 x0 x1 x2 y0 y1 y2 hlx hly
      go_wp2_with fail
      go_ret
      exact ⟨rfl, H8.out⟩
end Go.Proofs.YtgcfjkfipkfijaaGreatDoor
