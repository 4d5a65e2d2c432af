/- Part 27 of the proof of rtexts_card; no conditions. -/
import Derived.Test.YtgcfjkfipkfijaaGreatDoorTx26
import Derived.OpenShut
import Derived.ChangeMaps5
namespace Go.Proofs.YtgcfjkfipkfijaaGreatDoor
open Go Go.RowKit Go.Lib
set_option maxHeartbeats 16000000 in
set_option maxRecDepth 100000 in
open Classical in
theorem xsame_any {P Q : Nat → Prop} (x y : Rec) (pA : Option Addr) (pc : Nat) (nA : Option Addr) (nc : Nat) (pA' : Option Addr) (pc' : Nat) (nA' : Option Addr) (nc' : Nat) (w : World) (ha : RecF P w x pA pc nA nc) (hb : RecF Q w y pA' pc' nA' nc') :
  Calls Tryz.prog 11 #[recV x pA pc nA nc, recV y pA' pc' nA' nc'] w fun r w' => r = .returned (.bool (decide (x = y))) ∧ Below w.heap.size w w' := by
 obtain ⟨nm, ps, ns⟩ := x
 obtain ⟨nm', ps', ns'⟩ := y
 obtain ⟨R, hR⟩ : ∃ q, decide ((⟨nm, ps, ns⟩ : Rec) = ⟨nm', ps', ns'⟩) = q := ⟨_, rfl⟩
 rw [hR]
 have hR0 : R = true ↔ nm = nm' ∧ ps = ps' ∧ ns = ns' := by
  rw [← hR, decide_eq_true_iff]
  simp only [Rec.mk.injEq]
 have hpm := (ha.prms.2 [] (by simp)).1
 have hpm' := (hb.prms.2 [] (by simp)).1
 have hnm := (ha.nds.2 [] (by simp)).1
 have hnm' := (hb.nds.2 [] (by simp)).1
 have hpc := ha.prms.1
 have hpc' := hb.prms.1
 have hnc := ha.nds.1
 have hnc' := hb.nds.1
 simp only at hpm hpm' hnm hnm' hpc hpc' hnc hnc'
 obtain ⟨m, hm⟩ : ∃ n, ps.length = n := ⟨_, rfl⟩
 obtain ⟨m', hm'⟩ : ∃ n, ps'.length = n := ⟨_, rfl⟩
 obtain ⟨n, hn⟩ : ∃ n, ns.length = n := ⟨_, rfl⟩
 obtain ⟨n', hn'⟩ : ∃ n, ns'.length = n := ⟨_, rfl⟩
 show Calls Tryz.prog 11 #[.agg #[.string nm, .slice pA ps.length pc, .slice nA ns.length nc], .agg #[.string nm', .slice pA' ps'.length pc', .slice nA' ns'.length nc']] w _
 obtain ⟨w0, hw0, hal, hx, hy⟩ := two_box (w := w) (cs := #[.string nm, .slice pA ps.length pc, .slice nA ns.length nc]) (ds := #[.string nm', .slice pA' ps'.length pc', .slice nA' ns'.length nc']) (t := 26) (u := 26)
 have H : Hid (RowF prmK P w pA pc ps ∧ RowF prmK Q w pA' pc' ps' ∧ RowF ndK P w nA nc ns ∧ RowF ndK Q w nA' nc' ns' ∧ ps.length = m ∧ ps'.length = m' ∧ ns.length = n ∧ ns'.length = n') := Lib.hid ⟨ha.prms, hb.prms, ha.nds, hb.nds, hm, hm', hn, hn'⟩
 have HX := Lib.hid hx
 have HY := Lib.hid hy
 have HW0 := Lib.hid hw0
 have HAL := Lib.hid hal
 have HR := Lib.hid hR0
 simp only [hm, hm', hn, hn'] at hpm hpm' hnm hnm' hpc hpc' hnc hnc' hx hy HX HY HW0 ⊢
 obtain ⟨⟨x0, x1, x2⟩, _⟩ := blk3' hx
 obtain ⟨⟨y0, y1, y2⟩, _⟩ := blk3' hy
 have hlx := blk_lt hx
 have hly := blk_lt hy
 clear ha hb hx hy hw0 hal hR hR0 hm hm' hn hn'
 by_cases he : nm = nm' ∧ m = m' ∧ n = n'
 ·obtain ⟨rfl, rfl, rfl⟩ := he
  go_enter Tryz.func11, Tryz.ntmps11
  go_wp2_with fail
  rw [HW0.out]
  go_loopg [5] (m + 1) (fun q s5 w' => ∃ j : Nat, s5 = .int .i64 j ∧ j ≤ m ∧ m - j < q ∧ ps.take j = ps'.take j ∧ Below w0.heap.size w0 w')
  case atStart => exact ⟨0, rfl, by omega, by omega, by simp, Below.refl _ _⟩
  case round =>
   obtain ⟨j, rfl, hj, hjk, htk, hbw⟩ := hrel
   obtain ⟨gk, rfl⟩ : ∃ k, gk = k + 1 := ⟨gk - 1, by omega⟩
   clear x0 x1 x2 y0 y1 y2 hlx hly
   have hxr := (hbw.block _ (blk_lt HX.out)).trans HX.out
   have hyr := (hbw.block _ (blk_lt HY.out)).trans HY.out
   obtain ⟨⟨x0, x1, x2⟩, _⟩ := blk3' hxr
   obtain ⟨⟨y0, y1, y2⟩, _⟩ := blk3' hyr
   have hlx := blk_lt hxr
   have hly := blk_lt hyr
   have hS : Below w.heap.size w wr := HAL.out.trans (hbw.mono HAL.out.size)
   by_cases hlt : j < m
   ·have hix : j < ps.length := by rw [H.out.2.2.2.2.1]; exact hlt
    have hiy : j < ps'.length := by rw [H.out.2.2.2.2.2.1]; exact hlt
    obtain ⟨ad, rfl, c0, c1, c2, hcl⟩ := prm_some (H.out.1.below hS) j hix
    obtain ⟨bd, rfl, d0, d1, d2, hdl⟩ := prm_some (H.out.2.1.below hS) j hiy
    obtain ⟨a, haa⟩ : ∃ x, ps[j] = x := ⟨_, rfl⟩
    obtain ⟨b, hbb⟩ : ∃ x, ps'[j] = x := ⟨_, rfl⟩
    have HS := Lib.hid (⟨hix, hiy, haa, hbb, htk, hbw, hS⟩ : ∃ (h1 : j < ps.length) (h2 : j < ps'.length), ps[j] = a ∧ ps'[j] = b ∧ ps.take j = ps'.take j ∧ Below w0.heap.size w0 wr ∧ Below w.heap.size w wr)
    rw [haa] at c0 c1 c2
    rw [hbb] at d0 d1 d2
    obtain ⟨xn, xi, xs'⟩ := a
    obtain ⟨yn, yi, ys'⟩ := b
    simp only at c0 c1 c2 d0 d1 d2
    have hz : (j : Int) < m := by omega
    have hz0 : (0 : Int) ≤ j := by omega
    clear htk hbw hxr hyr haa hbb hS hix hiy
    by_cases hxy : (⟨xn, xi, xs'⟩ : Prm) = ⟨yn, yi, ys'⟩
    ·injection hxy with e1 e2 e3
     subst e1 e2 e3
     go_wp2_with fail
     go_region
     all_goals
      go_wp2_with fail
      go_roundg gk
      case measure => omega
      case rel =>
       obtain ⟨h1, h2, e1, e2, h4, h5, _⟩ := HS.out
       exact ⟨j + 1, by go_num, by omega, by omega, take_next h1 h2 h4 (e1.trans e2.symm), h5.drew⟩
    ·have HF : Hid (R = false) := Lib.hid (by
      obtain ⟨h1, h2, e1, e2, _⟩ := HS.out
      refine Bool.eq_false_iff.2 (fun hc => ?_)
      exact ne_at h1 h2 (fun e => hxy (by rw [← e1, ← e2, e])) (HR.out.1 hc).2.1)
     have fin : Hid (Below w.heap.size w wr) := Lib.hid (by obtain ⟨_, _, _, _, _, _, h6⟩ := HS.out; exact h6)
     by_cases q1 : xn = yn
     ·subst q1
      by_cases q2 : xi = yi
      ·subst q2
       have q3 : ¬ xs' = ys' := fun e => hxy (by rw [e])
       clear hxy
       go_wp2_with fail
       go_region
       all_goals
        go_wp2_with fail
        go_ret
        exact ⟨by rw [HF.out]; rfl, fin.out.drew⟩
      ·clear hxy
       go_wp2_with fail
       go_region
       all_goals
        go_wp2_with fail
        go_ret
        exact ⟨by rw [HF.out]; rfl, fin.out.drew⟩
     ·have q4 : ¬ xn.toList = yn.toList := fun e => q1 (by
       rw [Lib.toList_data, Lib.toList_data] at e
       exact ByteArray.ext (Array.toList_inj.1 e))
      clear hxy
      go_wp2_with fail
      go_region
      all_goals
       go_wp2_with fail
       go_ret
       exact ⟨by rw [HF.out]; rfl, fin.out.drew⟩
   ·obtain rfl : j = m := by omega
    have HK := Lib.hid (take_eq H.out.2.2.2.2.1 H.out.2.2.2.2.2.1 htk rfl)
    have HB := Lib.hid hbw
    clear htk hbw hxr hyr hS
    go_wp2_with fail
    clear x0 x1 x2 y0 y1 y2 hlx hly
    go_loopg [6] (n + 1) (fun q s6 w' => ∃ i : Nat, s6 = .int .i64 i ∧ i ≤ n ∧ n - i < q ∧ ns.take i = ns'.take i ∧ Below w0.heap.size w0 w')
    case atStart => exact ⟨0, rfl, by omega, by omega, by simp, HB.out⟩
    case round =>
     obtain ⟨i, rfl, hi, hik, htk, hbw⟩ := hrel
     obtain ⟨gi, rfl⟩ : ∃ k, gk = k + 1 := ⟨gk - 1, by omega⟩
     have hxr := (hbw.block _ (blk_lt HX.out)).trans HX.out
     have hyr := (hbw.block _ (blk_lt HY.out)).trans HY.out
     obtain ⟨⟨x0, x1, x2⟩, _⟩ := blk3' hxr
     obtain ⟨⟨y0, y1, y2⟩, _⟩ := blk3' hyr
     have hlx := blk_lt hxr
     have hly := blk_lt hyr
     have hS : Below w.heap.size w wr := HAL.out.trans (hbw.mono HAL.out.size)
     by_cases hlt : i < n
     ·have hix : i < ns.length := by rw [H.out.2.2.2.2.2.2.1]; exact hlt
      have hiy : i < ns'.length := by rw [H.out.2.2.2.2.2.2.2]; exact hlt
      have hR1 := H.out.2.2.1.below hS
      have hR2 := H.out.2.2.2.1.below hS
      obtain ⟨ad, rfl⟩ := row_ad hR1 i hix
      obtain ⟨bd, rfl⟩ := row_ad hR2 i hiy
      obtain ⟨ukA, ukc, uuA, uuc, ugA, ugc, ueA, uec, ⟨c0, c1, c2, c3, c4, c5, c6, c7, c8⟩, hu1, hu2, hu3, hu4, hul⟩ := nd_some hR1 i hix
      obtain ⟨vkA, vkc, vuA, vuc, vgA, vgc, veA, vec, ⟨d0, d1, d2, d3, d4, d5, d6, d7, d8⟩, hv1, hv2, hv3, hv4, hvl⟩ := nd_some hR2 i hiy
      obtain ⟨a, haa⟩ : ∃ x, ns[i] = x := ⟨_, rfl⟩
      obtain ⟨b, hbb⟩ : ∃ x, ns'[i] = x := ⟨_, rfl⟩
      rw [haa] at c0 c1 c2 c3 c4 c5 c6 c7 c8 hu1 hu2 hu3 hu4
      rw [hbb] at d0 d1 d2 d3 d4 d5 d6 d7 d8 hv1 hv2 hv3 hv4
      have HC : Hid (∀ W, Below wr.heap.size wr W → _) := Lib.hid (fun W hW => xnode_any a b _ _ _ _ _ _ _ _ _ _ _ _ _ _ _ _ W (NdF.below ⟨hu1, hu2, hu3, hu4⟩ hW) (NdF.below ⟨hv1, hv2, hv3, hv4⟩ hW))
      obtain ⟨t, ht⟩ : ∃ q, decide (a = b) = q := ⟨_, rfl⟩
      simp only [ht] at HC
      have HS := Lib.hid (⟨hix, hiy, haa, hbb, htk, hbw, hS, ht⟩ : ∃ (h1 : i < ns.length) (h2 : i < ns'.length), ns[i] = a ∧ ns'[i] = b ∧ ns.take i = ns'.take i ∧ Below w0.heap.size w0 wr ∧ Below w.heap.size w wr ∧ decide (a = b) = t)
      have hz : (i : Int) < n := by omega
      have hz0 : (0 : Int) ≤ i := by omega
      clear hu1 hu2 hu3 hu4 hv1 hv2 hv3 hv4 hR1 hR2 htk hbw hxr hyr haa hbb hS ht hix hiy
      go_wp2_with fail
      go_cut [7] (fun s7 wx => s7 = .bool t ∧ Below wr.heap.size wr wx)
      case first =>
       go_region_with ((go_at_call 39; refine (HC.out _ ?_).mono ?_; (first | exact Below.refl _ _ | exact (Below.refl _ _).drew); rintro r w5 ⟨rfl, hb5⟩; have HB5 := Lib.hid hb5; clear hb5))
       all_goals
        go_wp2_with fail
        go_meet
        exact ⟨rfl, by first | exact HB5.out | exact (Below.refl _ _).drew.trans HB5.out⟩
      case rest =>
       obtain ⟨rfl, hbx⟩ := hcut
       have HBX := Lib.hid hbx
       clear hbx c0 c1 c2 c3 c4 c5 c6 c7 c8 d0 d1 d2 d3 d4 d5 d6 d7 d8 x0 x1 x2 y0 y1 y2 hlx hly hul hvl
       cases t
       ·have HF : Hid (R = false) := Lib.hid (by
         obtain ⟨h1, h2, e1, e2, _, _, _, h8⟩ := HS.out
         refine Bool.eq_false_iff.2 (fun hc => ?_)
         exact ne_at h1 h2 (fun e => of_decide_eq_false h8 (by rw [← e1, ← e2, e])) (HR.out.1 hc).2.2)
        have fin : Hid (Below w.heap.size w wr) := Lib.hid (by obtain ⟨_, _, _, _, _, _, h6, _⟩ := HS.out; exact h6)
        go_wp2_with fail
        go_ret
        exact ⟨by rw [HF.out]; rfl, fin.out.trans (HBX.out.mono fin.out.size)⟩
       ·go_wp2_with fail
        go_roundg gi
        case measure => omega
        case rel =>
         obtain ⟨h1, h2, e1, e2, h4, h5, _, h8⟩ := HS.out
         exact ⟨i + 1, by go_num, by omega, by omega, take_next h1 h2 h4 (by rw [e1, e2]; exact of_decide_eq_true h8), h5.trans (HBX.out.mono h5.size)⟩
     ·obtain rfl : i = n := by omega
      have HF : Hid (R = true) := Lib.hid (HR.out.2 ⟨by first | exact rfl | trivial, HK.out, take_eq H.out.2.2.2.2.2.2.1 H.out.2.2.2.2.2.2.2 htk rfl⟩)
      have HB2 := Lib.hid hS
      clear htk hbw hxr hyr hS
      go_wp2_with fail
      go_ret
      exact ⟨by rw [HF.out]; rfl, HB2.out⟩
 ·have HQ : Hid (R = false) := Lib.hid (Bool.eq_false_iff.2 (fun hc => he (by
   obtain ⟨h1, h2, h3⟩ := HR.out.1 hc
   exact ⟨h1, by rw [← H.out.2.2.2.2.1, ← H.out.2.2.2.2.2.1, h2], by rw [← H.out.2.2.2.2.2.2.1, ← H.out.2.2.2.2.2.2.2, h3]⟩)))
  have key : ((nm.data.toList == nm'.data.toList) = false ∧ (nm.toList == nm'.toList) = false) ∨ nm = nm' ∧ (((m : Int) == m') = false ∨ m = m' ∧ ((n : Int) == n') = false) := by
   by_cases e2 : nm = nm'
   ·refine .inr ⟨e2, ?_⟩
    by_cases e3 : m = m'
    ·exact .inr ⟨e3, beqf (fun e4 => he ⟨e2, e3, by omega⟩)⟩
    ·exact .inl (beqf (by omega))
   ·exact .inl (str_ne e2)
  rcases key with ⟨t1, t3⟩ | ⟨rfl, t1 | ⟨rfl, t1⟩⟩
  all_goals
   have t2 := bne_of t1
   clear he
   go_enter Tryz.func11, Tryz.ntmps11
   go_wp2_with fail
   rw [HW0.out]
   go_ret
   exact ⟨by rw [HQ.out]; rfl, HAL.out⟩
end Go.Proofs.YtgcfjkfipkfijaaGreatDoor
namespace Go.Proofs.YtgcfjkfipkfijaaGreatDoor
open Go Go.RowKit Go.Lib
structure HoldT (w0 w : World) : Prop where
 tabs : Tabs w
 below : Below w0.heap.size w0 w
theorem HoldT.step {w0 w w' : World} (h : HoldT w0 w) (hb : Below w.heap.size w w') : HoldT w0 w' := ⟨h.tabs.below hb, h.below.trans (hb.mono h.below.size)⟩
set_option maxHeartbeats 8000000 in
set_option maxRecDepth 100000 in
theorem rtexts_any (s : ByteArray) (w : World) (hT : Tabs w) (_hs : s.size ≤ maxLen) :
  Calls Tryz.prog 3 #[.string s] w fun r w' => r = .returned (.bool true) ∧ Below w.heap.size w w' := by
 have H0 := Lib.hid (HoldT.mk hT (Below.refl w.heap.size w))
 obtain ⟨⟨x, e0, a0⟩, hp⟩ : ∃ p, recP s = p := ⟨_, rfl⟩
 have HP := Lib.hid hp
 clear hT hp
 by_cases h3 : (9000 : Int) < s.size
 ·clear HP
  go_enter Tryz.func3, Tryz.ntmps3
  go_wp2_with fail
  refine (rawake_any w H0.out.tabs).mono ?_
  rintro r w1 ⟨rfl, hb1⟩
  have H1 := Lib.hid (H0.out.step hb1)
  clear hb1
  go_wp2_with fail
  go_ret
  exact ⟨rfl, H1.out.below⟩
 have h3' : (s.size : Int) ≤ 9000 := by omega
 clear h3
 have HPA : Hid (∀ W, Tabs W → Calls Tryz.prog 9 #[.string s] W (RecPost (x, e0, a0) W)) := Lib.hid (fun W h => by
  have := rparse_any s W h (by omega)
  rwa [HP.out] at this)
 have HPX : Hid (∀ W, Calls Tryz.prog 10 #[.string s] W (RecPost (x, e0, a0) W)) := Lib.hid (fun W => by
  have := yparse_any s W (by omega)
  rwa [HP.out] at this)
 clear HP
 go_enter Tryz.func3, Tryz.ntmps3
 go_wp2_with fail
 refine (rawake_any w H0.out.tabs).mono ?_
 rintro r w1 ⟨rfl, hb1⟩
 have H1 := Lib.hid (H0.out.step hb1)
 clear hb1
 go_wp2_with fail
 refine (HPA.out w1 H1.out.tabs).mono ?_
 rintro r w2 ⟨pA, pc, nA, nc, rfl, hpp, hnn, hb2⟩
 simp only at hpp hnn
 obtain ⟨w3, hw3⟩ : ∃ w', w2.alloc (.cells #[.string x.name, .slice pA x.params.length pc, .slice nA x.nodes.length nc] 26) = w' := ⟨_, rfl⟩
 have hb3 : Below w2.heap.size w2 w3 := hw3 ▸ (Below.refl _ _).alloc (Nat.le_refl _) _
 obtain ⟨K, hK⟩ : ∃ K, w2.heap.size = K := ⟨_, rfl⟩
 have hx3 : w3.heap[K]? = some (.cells #[.string x.name, .slice pA x.params.length pc, .slice nA x.nodes.length nc] 26 (0, 0)) := by rw [← hK, ← hw3]; exact heap_alloc_new _ _
 have H3 := Lib.hid (⟨(H1.out.step hb2).step hb3, RecF.below (r := x) ⟨hpp, hnn⟩ hb3, hx3⟩ : _ ∧ _ ∧ _)
 have HW3 := Lib.hid hw3
 have HK := Lib.hid hK
 clear hb2 hpp hnn hb3 hw3 hx3 hK
 go_upto_region 5 with fail
 rw [HW3.out, HK.out]
 go_wp2_with fail
 refine (HPX.out w3).mono ?_
 rintro r w4 ⟨pA', pc', nA', nc', rfl, hpp, hnn, hb4⟩
 simp only at hpp hnn
 obtain ⟨w5, hw5⟩ : ∃ w', w4.alloc (.cells #[.string x.name, .slice pA' x.params.length pc', .slice nA' x.nodes.length nc'] 26) = w' := ⟨_, rfl⟩
 have hb5 : Below w4.heap.size w4 w5 := hw5 ▸ (Below.refl _ _).alloc (Nat.le_refl _) _
 obtain ⟨K', hK'⟩ : ∃ K, w4.heap.size = K := ⟨_, rfl⟩
 have hy5 : w5.heap[K']? = some (.cells #[.string x.name, .slice pA' x.params.length pc', .slice nA' x.nodes.length nc'] 26 (0, 0)) := by rw [← hK', ← hw5]; exact heap_alloc_new _ _
 have hb45 := hb4.trans (hb5.mono hb4.size)
 have hx5 := (hb45.block K (blk_lt H3.out.2.2)).trans H3.out.2.2
 have H5 := Lib.hid (H3.out.1.step hb45)
 have hS := xsame_any x x pA pc nA nc pA' pc' nA' nc' w5 (H3.out.2.1.below hb45) (RecF.below ⟨hpp, hnn⟩ hb5)
 rw [@decide_eq_true (x = x) (Classical.propDecidable _) rfl] at hS
 have HS := Lib.hid hS
 have HW5 := Lib.hid hw5
 have HK' := Lib.hid hK'
 obtain ⟨⟨x0, x1, x2⟩, _⟩ := blk3' hx5
 obtain ⟨⟨y0, y1, y2⟩, _⟩ := blk3' hy5
 have hlx := blk_lt hx5
 have hly := blk_lt hy5
 clear hb4 hpp hnn hb5 hw5 hK' hb45 hx5 hy5 hS
 go_upto_region 6 with fail
 rw [HW5.out, HK'.out]
 go_wp2_with fail
 refine HS.out.mono ?_
 rintro e w6 ⟨rfl, hb6⟩
 have H6 := Lib.hid (H5.out.step hb6)
 clear hb6 x0 x1 x2 y0 y1 y2 hlx hly
 go_wp2_with fail
 go_ret
 exact ⟨rfl, H6.out.below⟩
end Go.Proofs.YtgcfjkfipkfijaaGreatDoor
namespace Go.Proofs.YtgcfjkfipkfijaaGreatDoor
open Go Go.RowKit Go.ChangeShapes Go.WideShapes Go.ChangeMaps
theorem rtexts_witness (os : Os) {H : Type} (enc : TypeId × Value → H) :
  (OpenSpec.ofChange Rows.recipeTextsSpec).preRow enc Tryz.prog Tryz.f3 Rows.recipeTextsRow.domain false Rows.recipeTextsRow.laid ((laidWorld os).forCall (fun _ _ => 0) ⟨#[], #[.string ⟨#[]⟩], []⟩).memory #[.string ⟨#[]⟩] := by
 have hw : (DataW.whole enc Tryz.prog ((laidWorld os).forCall (fun _ _ => 0) ⟨#[], #[.string ⟨#[]⟩], []⟩).memory Tryz.f3.params.toList (OpenSpec.ofChange Rows.recipeTextsSpec).vars false #[Value.string ⟨#[]⟩].toList 8).map (fun x => (x.1, x.2.1)) =
   some ([.lit (.string [])], []) := by kernel_rfl
 obtain ⟨⟨x1, x2, x3⟩, hx, hx1⟩ := Option.map_eq_some_iff.1 hw
 simp only [Prod.mk.injEq] at hx1
 obtain ⟨rfl, rfl⟩ := hx1
 exact OpenSpec.preRow_of_cond 8 hx (by kernel_rfl) (fun k hk => by cases hk) (by kernel_rfl) (laid_met os _)
set_option maxRecDepth 100000 in
theorem rtexts_lifted (os : Os) (started : os.Started) (H : Type) (enc : TypeId × Value → H) (F : Stop.Interp) :
  ReturnsInHanded {} Tryz.checked os 3 .any ((OpenSpec.ofChange Rows.recipeTextsSpec).preRow enc Tryz.prog Tryz.f3 Rows.recipeTextsRow.domain false Rows.recipeTextsRow.laid)
   (((OpenSpec.ofChange Rows.recipeTextsSpec).at F).post enc Tryz.prog Tryz.f3 false true false false) := by
 refine returnsInHanded_of_row (C := Tryz.checked) (s := OpenSpec.ofChange Rows.recipeTextsSpec) own started (by kernel_rfl) Tryz.func3
  (witness_row_atRef (enc := enc) (C := Tryz.checked) false (laidWorld os) #[.string ⟨#[]⟩] rfl (by kernel_rfl) (by kernel_rfl) (by kernel_rfl) (rtexts_witness os enc)) ?_
 intro W base args ds gs before hval0 hW _ _ _ hL hsh _
 have hval : ∀ (j : Nat) t v, Tryz.f3.params[j]? = some t → args[j]? = some v → Value.okWide Tryz.prog W .any base t v := hval0
 have hW' := hW
 obtain ⟨p, q, hA0, hV0, rfl, _, _⟩ := hW
 have hA : DataW.TrodAll enc Tryz.prog W 0 (fun _ => true) true Tryz.f3.params.toList args.toList ds p := hA0
 rw [Tryz.params3] at hA hval
 obtain ⟨v0, d0, rfl, rfl, h0⟩ := trodAll_one hA
 obtain ⟨rfl, rfl⟩ := trodVars_none hV0
 obtain ⟨s, rfl, rfl, rfl, ws⟩ := open_string Tryz.underlying9 (hval 0 9 v0 rfl rfl) h0
 clear hA0 hV0 hval0
 simp only [List.append_nil] at hW'
 refine (rtexts_any s W (tabs_of hL hsh) ws).mono ?_
 rintro e W' ⟨rfl, bel⟩
 have e1 : ((OpenSpec.ofChange Rows.recipeTextsSpec).at F).fn H ([.lit (.string s.data.toList)] ++ []) = { results := [.lit (.bool true)], args := [.lit (.string s.data.toList)] } := rfl
 refine ⟨_, rfl, _, _, _, [], [], [], hW', ?_, ?_, ?_, bel.frame _, fun h => by cases h⟩
 ·rw [e1]; exact trodAll_mk1 (shut_bool Tryz.underlying4 true)
 ·rw [e1]; exact trodAll_mk1 (shut_string Tryz.underlying9 ws)
 ·rw [e1]; rfl
theorem rtexts_holds : Rows.RecipeTextsSaid :=
 OpenClaim.holds_of_cond 3 Tryz.f3 rfl rfl rfl rfl rfl rfl rfl ⟨rfl, rfl, rfl, rfl, rfl⟩ rfl rfl rfl rfl rfl (by kernel_rfl) Tryz.func3 (by kernel_rfl)
  (of_decide_eq_true (by kernel_rfl)) (by unfold Func.isWrapper; rw [if_neg (of_decide_eq_false (by kernel_rfl))]; exact ⟨rfl, rfl⟩)
  (fun os started H enc _ F0 => by rw [OpenClaim.pre_eq_preRow]; exact rtexts_lifted os started H enc F0)
theorem rtexts_card : Rows.RecipeTextsCardSaid :=
 Claim7.holds_tied_plain_at .later [] [.data, .data, .data, .data, .pinned] true (true, "04ca698ff224db9bd73a9a6d26b4a2bcbb32795aec38f415137af063ca9367ec") true
  rtexts_holds (fun _ h => by cases h) (by kernel_rfl) (fun _ h => by cases h) recipeTexts_row_tie rfl ⟨rfl, rfl⟩ (by kernel_rfl) rfl
  (fun f fn hf hfn => by
    obtain rfl : f = 3 := Option.some.inj ((show Tryz.prog.funcNamed "malthouse/malthouselaw15.RecipeTexts" = some 3 by kernel_rfl).symm.trans hf) |>.symm
    obtain rfl : fn = Tryz.f3 := (Option.some.inj (Tryz.func3.symm.trans hfn)).symm
    exact ⟨by kernel_rfl, fun j t ht => by
     rw [Tryz.params3] at ht
     have h3 : t = 9 := by
      rcases j with _ | j
      ·simpa using ht.symm
      ·simp at ht
     subst h3
     exact (show Tryz.prog.wantsStandIn 9 = false by kernel_rfl)⟩)
  (by kernel_rfl)
end Go.Proofs.YtgcfjkfipkfijaaGreatDoor
