/- Part 25 of the proof of ragain_card; no conditions. -/
import Derived.Test.YtgcfjkfipkfijaaGreatDoorAg01
import Derived.Test.YtgcfjkfipkfijaaGreatDoorAg24
import Derived.Test.YtgcfjkfipkfijaaGreatDoorAg18
import Derived.Test.YtgcfjkfipkfijaaGreatDoorAg20
import Derived.Test.YtgcfjkfipkfijaaGreatDoorAg12
import Derived.Test.YtgcfjkfipkfijaaGreatDoorAg22
import Derived.Test.YtgcfjkfipkfijaaGreatDoorRows
import Derived.Test.YtgcfjkfipkfijaaGreatDoorCards
import Derived.Test.YtgcfjkfipkfijaaGreatDoorTie
import Derived.ProofKit
import Derived.Deep.DeepHandedRow
import Derived.Deep.DeepWitnessRowRef
import Derived.Lib.LaidU8
import Derived.LaidMore
import Derived.JoinedOf
import Derived.JoinedCond
import Derived.SevenTiedAt
import Derived.Deep.Slices
import Derived.Deep.Fields
import Derived.ChangeSame
import Derived.Lib.SmallJoins
import Derived.Carry
import Derived.OpenShut
import Derived.Laws.MakeOwn
import Derived.ChangeMaps5
set_option maxRecDepth 100000
set_option maxHeartbeats 16000000
namespace Go.Proofs.YtgcfjkfipkfijaaGreatDoor
open Go Go.RowKit Go.Lib _root_.Go.Proofs.Tryz
open Classical in
theorem sS {P Q : Nat → Prop} {w : World} {A B : Option Addr} {a b : Nat} {xs ys : List ByteArray} (hx : aw ax.str P w A a xs) (hy : aw ax.str Q w B b ys) :
  Calls prog 16 #[.slice A xs.length a, .slice B ys.length b] w fun r w' => r = .returned (.bool (decide (xs = ys))) ∧ Below w.heap.size w w' := by
 obtain ⟨R, hR⟩ := nm_ (decide (xs = ys))
 rw [hR]
 have hxm := (hx.2 [] (by simp)).1
 have hym := (hy.2 [] (by simp)).1
 have hxc := hx.1
 have hyc := hy.1
 obtain ⟨n, hn⟩ := nm_ xs.length
 obtain ⟨m, hm⟩ := nm_ ys.length
 have H := hm_ hx hy hn hm hR
 rw [hn] at hxm hxc ⊢
 rw [hm] at hym hyc ⊢
 clear hx hy hn hm hR
 by_cases hnm : n = m
 ·subst hnm
  go_enter func16, ntmps16
  go_wp2_with fail
  go_loopg [5] (n + 1) (fun q s5 wr => ∃ i : Nat, s5 = .int .i64 (i : Nat) ∧ i ≤ n ∧ n - i < q ∧ xs.take i = ys.take i ∧ Below w.heap.size w wr)
  case atStart => exact ⟨0, rfl, h_ _, by omega, by simp, J_ _ _⟩
  case round =>
   obtain ⟨i, rfl, hin, hiq, htk, hb⟩ := hrel
   obtain ⟨gk, rfl⟩ := pk_ gk 1 (by omega)
   by_cases hlt : i < n
   ·have hix : i < xs.length := by rw [H.out.2.2.1]; exact hlt
    have hiy : i < ys.length := by rw [H.out.2.2.2.1]; exact hlt
    obtain ⟨ad, rfl, c0, hl1⟩ := eX (H.out.1.below hb) i hix
    obtain ⟨bd, rfl, d0, hl2⟩ := eX (H.out.2.1.below hb) i hiy
    have HS := hid (⟨hix, hiy, htk, hb⟩ : ∃ (h1 : i < xs.length) (h2 : i < ys.length), xs.take i = ys.take i ∧ Below w.heap.size w wr)
    have HX := hid (fun (h1 : i < xs.length) (h2 : i < ys.length) (e : xs[i] = ys[i]) => e)
    have HN := hid (fun (e : xs[i] ≠ ys[i]) => im hix hiy e)
    obtain ⟨x, hxx⟩ := nm_ (xs[i])
    obtain ⟨y, hyy⟩ := nm_ (ys[i])
    have HE := hid (⟨hix, hiy, hxx, hyy⟩ : ∃ (h1 : i < xs.length) (h2 : i < ys.length), xs[i] = x ∧ ys[i] = y)
    rw [hxx] at c0
    rw [hyy] at d0
    have hz : (i : Int) < n := by omega
    have hz0 : (0 : Int) ≤ i := by omega
    clear htk hb hxx hyy HX HN
    by_cases hxy : x = y
    ·subst hxy
     clear hix hiy
     go_wp2_with fail
     go_region
     all_goals
      go_wp2_with fail
      go_roundg gk
      case measure => omega
      case rel =>
       obtain ⟨h1, h2, h4, h5⟩ := HS.out
       obtain ⟨_, _, e1, e2⟩ := HE.out
       exact ⟨i + 1, by go_num, by omega, by omega, dn h1 h2 h4 (e1.trans e2.symm), h5.drew⟩
    ·obtain ⟨t1, t3⟩ := fH hxy
     have t2 := gH t1
     have t4 := gH t3
     have HF : Hid (R = false) := hid (by
      obtain ⟨h1, h2, e1, e2⟩ := HE.out
      rw [← H.out.2.2.2.2]
      exact V_ (im h1 h2 (fun e => hxy (by rw [← e1, ← e2, e]))))
     clear hix hiy hxy
     go_wp2_with fail
     go_region
     all_goals
      go_wp2_with fail
      refine L_ (v := .bool false) (by simp [results, results16, go_sem, *]) rfl ?_
      obtain ⟨h1, h2, h4, h5⟩ := HS.out
      exact ⟨by rw [HF.out], h5.drew⟩
   ·obtain rfl : i = n := by omega
    have HF : Hid (R = true) := hid (by
     rw [← H.out.2.2.2.2]
     exact W_ (eR H.out.2.2.1 H.out.2.2.2.1 htk rfl))
    have HB := hid hb
    clear hb htk
    go_wp2_with fail
    refine L_ (v := .bool true) (by simp [results, results16, go_sem, *]) rfl ?_
    exact ⟨by rw [HF.out], HB.out⟩
 ·have t1 : ((n : Int) == m) = false := aO (by omega)
  have t2 := gH t1
  have HF : Hid (R = false) := hid (by
   rw [← H.out.2.2.2.2]
   refine V_ (fun e => hnm ?_)
   rw [← H.out.2.2.1, ← H.out.2.2.2.1, e])
  clear hnm
  go_enter func16, ntmps16
  go_wp2_with fail
  refine L_ (v := .bool false) (by simp [results, results16, go_sem, *]) rfl ?_
  exact ⟨by rw [HF.out], J_ _ _⟩
open Classical in
theorem vH {P Q : Nat → Prop} (x y : Nd) (kA : Option Addr) (kc : Nat) (uA : Option Addr) (uc : Nat) (gA : Option Addr) (gc : Nat) (eA : Option Addr) (ec : Nat) (kA' : Option Addr) (kc' : Nat) (uA' : Option Addr) (uc' : Nat) (gA' : Option Addr) (gc' : Nat) (eA' : Option Addr) (ec' : Nat) (w : World)
  (ha : vP P w x kA kc uA uc gA gc eA ec) (hb : vP Q w y kA' kc' uA' uc' gA' gc' eA' ec') :
  Calls prog 39 #[AB x kA kc uA uc gA gc eA ec, AB y kA' kc' uA' uc' gA' gc' eA' ec'] w fun r w' => r = .returned (.bool (decide (x = y))) ∧ Below w.heap.size w w' := by
 obtain ⟨k, ki, us, nm, al, e⟩ := x
 obtain ⟨k', ki', us', nm', al', e'⟩ := y
 obtain ⟨R, hR⟩ := nm_ (decide ((⟨k, ki, us, nm, al, e⟩ : Nd) = ⟨k', ki', us', nm', al', e'⟩))
 rw [hR]
 have hR0 : R = true ↔ k = k' ∧ ki = ki' ∧ us = us' ∧ nm = nm' ∧ al = al' ∧ e = e' := by
  rw [← hR, decide_eq_true_iff]
  simp only [Nd.mk.injEq]
 have hkm := (ha.kids.2 [] (by simp)).1
 have hkm' := (hb.kids.2 [] (by simp)).1
 have hgm := (ha.args.2 [] (by simp)).1
 have hgm' := (hb.args.2 [] (by simp)).1
 have hkc := ha.kids.1
 have hkc' := hb.kids.1
 have hgc := ha.args.1
 have hgc' := hb.args.1
 simp only at hkm hkm' hgm hgm' hkc hkc' hgc hgc'
 obtain ⟨m, hm⟩ := nm_ ki.length
 obtain ⟨m', hm'⟩ := nm_ ki'.length
 obtain ⟨n, hn⟩ := nm_ al.length
 obtain ⟨n', hn'⟩ := nm_ al'.length
 show Calls prog 39 #[.agg #[.int .i64 k, .slice kA ki.length kc, .slice uA us.length uc, .string nm, .slice gA al.length gc, .int .i64 e.op, .int .i64 e.n, .string e.name, .slice eA e.kids.length ec], .agg #[.int .i64 k', .slice kA' ki'.length kc', .slice uA' us'.length uc', .string nm', .slice gA' al'.length gc', .int .i64 e'.op, .int .i64 e'.n, .string e'.name, .slice eA' e'.kids.length ec']] w _
 obtain ⟨w0, hw0, hal, hx, hy⟩ := fA (w := w) (cs := #[.int .i64 k, .slice kA ki.length kc, .slice uA us.length uc, .string nm, .slice gA al.length gc, .int .i64 e.op, .int .i64 e.n, .string e.name, .slice eA e.kids.length ec])
  (ds := #[.int .i64 k', .slice kA' ki'.length kc', .slice uA' us'.length uc', .string nm', .slice gA' al'.length gc', .int .i64 e'.op, .int .i64 e'.n, .string e'.name, .slice eA' e'.kids.length ec']) (t := 43) (u := 43)
 have H : Hid (aw (ax.int .i64) P w kA kc ki ∧ aw (ax.int .i64) Q w kA' kc' ki' ∧ aw iX P w gA gc al ∧ aw iX Q w gA' gc' al' ∧ ki.length = m ∧ ki'.length = m' ∧ al.length = n ∧ al'.length = n') := hid ⟨ha.kids, hb.kids, ha.args, hb.args, hm, hm', hn, hn'⟩
 have HT : Hid (∀ W, Below w.heap.size w W → Calls prog 16 #[.slice uA us.length uc, .slice uA' us'.length uc'] W fun r w' => r = .returned (.bool (decide (us = us'))) ∧ Below W.heap.size W w') := hid (fun W hW => sS (ha.units.below hW) (hb.units.below hW))
 have HE : Hid (∀ W, Below w.heap.size w W → Calls prog 64 #[cM e eA ec, cM e' eA' ec'] W fun r w' => r = .returned (.bool (decide (e = e'))) ∧ Below W.heap.size W w') := hid (fun W hW => tT e e' eA ec eA' ec' W (ha.ex.below hW) (hb.ex.below hW))
 have HX := hid hx
 have HY := hid hy
 have HW0 := hid hw0
 have HAL := hid hal
 have HR := hid hR0
 simp only [hm, hm', hn, hn'] at hkm hkm' hgm hgm' hkc hkc' hgc hgc' hx hy HX HY HW0 ⊢
 obtain ⟨⟨x0, x1, x2, x3, x4⟩, x5, x6, x7, x8⟩ := nX hx
 obtain ⟨⟨y0, y1, y2, y3, y4⟩, y5, y6, y7, y8⟩ := nX hy
 have hlx := ab hx
 have hly := ab hy
 clear ha hb hx hy hw0 hal hR hR0 hm hm' hn hn'
 by_cases he : k = k' ∧ nm = nm' ∧ m = m' ∧ n = n'
 ·obtain ⟨rfl, rfl, rfl, rfl⟩ := he
  go_enter func39, ntmps39
  go_wp2_with fail
  rw [HW0.out]
  go_loopg [5] (m + 1) (fun q s5 w' => ∃ j : Nat, s5 = .int .i64 j ∧ j ≤ m ∧ m - j < q ∧ ki.take j = ki'.take j ∧ Below w0.heap.size w0 w')
  case atStart => exact ⟨0, rfl, by omega, by omega, by simp, J_ _ _⟩
  case round =>
   obtain ⟨j, rfl, hj, hjk, htk, hbw⟩ := hrel
   obtain ⟨gk, rfl⟩ := pk_ gk 1 (by omega)
   clear x0 x1 x2 x3 x4 x5 x6 x7 x8 y0 y1 y2 y3 y4 y5 y6 y7 y8 hlx hly
   have hxr := bp_ hbw HX.out
   have hyr := bp_ hbw HY.out
   obtain ⟨⟨x0, x1, x2, x3, x4⟩, x5, x6, x7, x8⟩ := nX hxr
   obtain ⟨⟨y0, y1, y2, y3, y4⟩, y5, y6, y7, y8⟩ := nX hyr
   have hlx := ab hxr
   have hly := ab hyr
   have hS : Below w.heap.size w wr := HAL.out.trans (hbw.mono HAL.out.size)
   by_cases hlt : j < m
   ·have hix : j < ki.length := by rw [H.out.2.2.2.2.1]; exact hlt
    have hiy : j < ki'.length := by rw [H.out.2.2.2.2.2.1]; exact hlt
    obtain ⟨ad, rfl, c0, hcl⟩ := bX (H.out.1.below hS) j hix
    obtain ⟨bd, rfl, d0, hdl⟩ := bX (H.out.2.1.below hS) j hiy
    obtain ⟨a, haa⟩ := nm_ (ki[j])
    obtain ⟨b, hbb⟩ := nm_ (ki'[j])
    have HS := hid (⟨hix, hiy, haa, hbb, htk, hbw, hS⟩ : ∃ (h1 : j < ki.length) (h2 : j < ki'.length), ki[j] = a ∧ ki'[j] = b ∧ ki.take j = ki'.take j ∧ Below w0.heap.size w0 wr ∧ Below w.heap.size w wr)
    rw [haa] at c0
    rw [hbb] at d0
    have hz : (j : Int) < m := by omega
    have hz0 : (0 : Int) ≤ j := by omega
    clear htk hbw hxr hyr haa hbb hS hix hiy
    by_cases hab : a = b
    ·subst hab
     go_wp2_with fail
     go_region
     all_goals
      go_wp2_with fail
      go_roundg gk
      case measure => omega
      case rel =>
       obtain ⟨h1, h2, e1, e2, h4, h5, _⟩ := HS.out
       exact ⟨j + 1, by go_num, by omega, by omega, dn h1 h2 h4 (e1.trans e2.symm), h5.drew⟩
    ·have t1 := aO hab
     have t2 := gH t1
     have HF : Hid (R = false) := hid (by
      obtain ⟨h1, h2, e1, e2, _⟩ := HS.out
      refine E_ (fun hc => ?_)
      have := (HR.out.1 hc).2.1
      exact im h1 h2 (fun e => hab (by rw [← e1, ← e2, e])) this)
     clear hab
     go_wp2_with fail
     go_region
     all_goals
      go_wp2_with fail
      go_ret
      obtain ⟨_, _, _, _, _, _, h6⟩ := HS.out
      exact ⟨by rw [HF.out]; rfl, h6.drew⟩
   ·obtain rfl : j = m := by omega
    have HK := hid (eR H.out.2.2.2.2.1 H.out.2.2.2.2.2.1 htk rfl)
    have HB := hid hbw
    clear htk hbw hxr hyr hS
    go_wp2_with fail
    clear x0 x1 x2 x3 x4 x5 x6 x7 x8 y0 y1 y2 y3 y4 y5 y6 y7 y8 hlx hly
    go_loopg [6] (n + 1) (fun q s6 w' => ∃ i : Nat, s6 = .int .i64 i ∧ i ≤ n ∧ n - i < q ∧ al.take i = al'.take i ∧ Below w0.heap.size w0 w')
    case atStart => exact ⟨0, rfl, by omega, by omega, by simp, HB.out⟩
    case round =>
     obtain ⟨i, rfl, hi, hik, htk, hbw⟩ := hrel
     obtain ⟨gi, rfl⟩ := pk_ gk 1 (by omega)
     have hxr := bp_ hbw HX.out
     have hyr := bp_ hbw HY.out
     obtain ⟨⟨x0, x1, x2, x3, x4⟩, x5, x6, x7, x8⟩ := nX hxr
     obtain ⟨⟨y0, y1, y2, y3, y4⟩, y5, y6, y7, y8⟩ := nX hyr
     have hlx := ab hxr
     have hly := ab hyr
     have hS : Below w.heap.size w wr := HAL.out.trans (hbw.mono HAL.out.size)
     by_cases hlt : i < n
     ·have hix : i < al.length := by rw [H.out.2.2.2.2.2.2.1]; exact hlt
      have hiy : i < al'.length := by rw [H.out.2.2.2.2.2.2.2]; exact hlt
      have hR1 := H.out.2.2.1.below hS
      have hR2 := H.out.2.2.2.1.below hS
      obtain ⟨ad, rfl⟩ := dX hR1 i hix
      obtain ⟨bd, rfl⟩ := dX hR2 i hiy
      obtain ⟨uA', uc'', c0, c1, c2, c3, c4, hux, hul⟩ := fy hR1 i hix
      obtain ⟨vA', vc'', d0, d1, d2, d3, d4, hvx, hvl⟩ := fy hR2 i hiy
      obtain ⟨a, haa⟩ := nm_ (al[i])
      obtain ⟨b, hbb⟩ := nm_ (al'[i])
      rw [haa] at c0 c1 c2 c3 c4 hux
      rw [hbb] at d0 d1 d2 d3 d4 hvx
      obtain ⟨an, ae⟩ := a
      obtain ⟨bn, be⟩ := b
      simp only at c0 c1 c2 c3 c4 hux d0 d1 d2 d3 d4 hvx
      have HC : Hid (∀ W, Below wr.heap.size wr W → _) := hid (fun W hW => tT ae be uA' uc'' vA' vc'' W (hux.below hW) (hvx.below hW))
      obtain ⟨t, ht⟩ := nm_ (decide (ae = be))
      simp only [ht] at HC
      have HS := hid (⟨hix, hiy, haa, hbb, htk, hbw, hS, ht, hxr, hyr, hR1, hR2⟩ : ∃ (h1 : i < al.length) (h2 : i < al'.length), al[i] = ⟨an, ae⟩ ∧ al'[i] = ⟨bn, be⟩ ∧ al.take i = al'.take i ∧ Below w0.heap.size w0 wr ∧ Below w.heap.size w wr ∧ decide (ae = be) = t ∧ _ ∧ _ ∧ aw iX P wr (some ad) gc al ∧ aw iX Q wr (some bd) gc' al')
      have hz : (i : Int) < n := by omega
      have hz0 : (0 : Int) ≤ i := by omega
      clear hux hvx hR1 hR2 htk hbw hxr hyr haa hbb hS ht hix hiy
      go_wp2_with fail
      go_cut [7] (fun s7 wx => s7 = .bool t ∧ Below wr.heap.size wr wx)
      case first =>
       go_region_with ((go_at_call 64; refine (HC.out _ ?_).mono ?_; (first | exact J_ _ _ | exact (J_ _ _).drew); rintro r w5 ⟨rfl, hb5⟩; have HB5 := hid hb5; clear hb5))
       all_goals
        go_wp2_with fail
        go_meet
        exact ⟨rfl, by first | exact HB5.out | exact (J_ _ _).drew.trans HB5.out⟩
      case rest =>
       obtain ⟨rfl, hbx⟩ := hcut
       clear c0 c1 c2 c3 c4 d0 d1 d2 d3 d4 x0 x1 x2 x3 x4 x5 x6 x7 x8 y0 y1 y2 y3 y4 y5 y6 y7 y8 hul hvl
       have x4 := (hbx.cell (p := ⟨w.heap.size, 4, none⟩) hlx).trans (by obtain ⟨_, _, _, _, _, _, _, _, hx, _⟩ := HS.out; exact (nX hx).1.2.2.2.2)
       have y4 := (hbx.cell (p := ⟨w.heap.size + 1, 4, none⟩) hly).trans (by obtain ⟨_, _, _, _, _, _, _, _, _, hy, _⟩ := HS.out; exact (nX hy).1.2.2.2.2)
       have hlx' := Y_ hlx hbx.size
       have hly' := Y_ hly hbx.size
       have HBX := hid hbx
       obtain ⟨hi1, hi2, ea, eb, hr1, hr2⟩ : ∃ (h1 : i < al.length) (h2 : i < al'.length), al[i] = ⟨an, ae⟩ ∧ al'[i] = ⟨bn, be⟩ ∧ aw iX P wr (some ad) gc al ∧ aw iX Q wr (some bd) gc' al' := by
        obtain ⟨h1, h2, h3, h4, _, _, _, _, _, _, h5, h6⟩ := HS.out
        exact ⟨h1, h2, h3, h4, h5, h6⟩
       obtain ⟨_, _, c0, _, _, _, _, hq1, hul⟩ := fy (hr1.below hbx) i hi1
       obtain ⟨_, _, d0, _, _, _, _, hq2, hvl⟩ := fy (hr2.below hbx) i hi2
       rw [ea] at c0
       rw [eb] at d0
       simp only at c0 d0
       have fin : Hid (Below w.heap.size w wr ∧ Below w0.heap.size w0 wr) := hid (by obtain ⟨_, _, _, _, _, h5, h6, _⟩ := HS.out; exact ⟨h6, h5⟩)
       clear ea eb hr1 hr2 hq1 hq2 hbx
       cases t
       ·have HF : Hid (R = false) := hid (by
         obtain ⟨h1, h2, e1, e2, _, _, _, h8, _⟩ := HS.out
         refine E_ (fun hc => ?_)
         refine im h1 h2 (fun e => of_decide_eq_false h8 ?_) (HR.out.1 hc).2.2.2.2.1
         rw [e1, e2] at e
         injection e)
        go_wp2_with fail
        go_region
        all_goals
         go_wp2_with fail
         go_ret
         exact ⟨by rw [HF.out]; rfl, by first | exact (fin.out.1.trans (HBX.out.mono fin.out.1.size)).drew | exact fin.out.1.trans (HBX.out.mono fin.out.1.size)⟩
       ·by_cases hnn : an = bn
        ·subst hnn
         go_wp2_with fail
         go_region
         all_goals
          go_wp2_with fail
          go_roundg gi
          case measure => omega
          case rel =>
           obtain ⟨h1, h2, e1, e2, h4, h5, _, h8, _⟩ := HS.out
           refine ⟨i + 1, by go_num, by omega, by omega, dn h1 h2 h4 (by rw [e1, e2, of_decide_eq_true h8]), ?_⟩
           first | exact (h5.trans (HBX.out.mono h5.size)).drew | exact h5.trans (HBX.out.mono h5.size)
        ·obtain ⟨t1, t3⟩ := fH hnn
         have t2 := gH t1
         have t4 := gH t3
         have HF : Hid (R = false) := hid (by
          obtain ⟨h1, h2, e1, e2, _⟩ := HS.out
          refine E_ (fun hc => ?_)
          refine im h1 h2 (fun e => hnn ?_) (HR.out.1 hc).2.2.2.2.1
          rw [e1, e2] at e
          injection e)
         clear hnn
         go_wp2_with fail
         go_region
         all_goals
          go_wp2_with fail
          go_ret
          exact ⟨by rw [HF.out]; rfl, by first | exact (fin.out.1.trans (HBX.out.mono fin.out.1.size)).drew | exact fin.out.1.trans (HBX.out.mono fin.out.1.size)⟩
     ·obtain rfl : i = n := by omega
      have HG := hid (eR H.out.2.2.2.2.2.2.1 H.out.2.2.2.2.2.2.2 htk rfl)
      have HB2 := hl_ hbw hS hxr hyr
      clear htk hbw hxr hyr hS
      go_wp2_with fail
      refine (HT.out _ HB2.out.2.1).mono ?_
      rintro r w3 ⟨rfl, hb3⟩
      obtain ⟨q1, hq1⟩ := nm_ (decide (us = us'))
      rw [hq1]
      have HB3 := hl_ (HB2.out.2.1.trans (hb3.mono HB2.out.2.1.size)) ((hb3.block _ hlx).trans HB2.out.2.2.1) ((hb3.block _ hly).trans HB2.out.2.2.2) hq1
      clear hb3 hq1 x0 x1 x2 x3 x4 x5 x6 x7 x8 y0 y1 y2 y3 y4 y5 y6 y7 y8 hlx hly
      obtain ⟨_, x5, x6, x7, x8⟩ := nX HB3.out.2.1
      obtain ⟨_, y5, y6, y7, y8⟩ := nX HB3.out.2.2.1
      have hlx := ab HB3.out.2.1
      have hly := ab HB3.out.2.2.1
      go_wp2_with fail
      refine (HE.out _ HB3.out.1).mono ?_
      rintro r w4 ⟨rfl, hb4⟩
      obtain ⟨q2, hq2⟩ := nm_ (decide (e = e'))
      rw [hq2]
      have HB4 := hj_ (HB3.out.1.trans (hb4.mono HB3.out.1.size)) hq2
      have HF : Hid (R = (q1 && q2)) := hid (by
       rw [Bool.eq_iff_iff, HR.out, ← HB3.out.2.2.2, ← hq2]
       simp only [a_, decide_eq_true_eq]
       exact ⟨fun h => ⟨h.2.2.1, h.2.2.2.2.2⟩, fun h => ⟨trivial, HK.out, h.1, trivial, HG.out, h.2⟩⟩)
      clear hb4 hq2 x5 x6 x7 x8 y5 y6 y7 y8 hlx hly
      cases q1
      ·go_wp2_with fail
       go_ret
       exact ⟨by rw [HF.out]; rfl, HB4.out.1⟩
      ·go_wp2_with fail
       go_ret
       exact ⟨by rw [HF.out]; rfl, HB4.out.1⟩
 ·have HQ : Hid (R = false) := hid (E_ (fun hc => he (by
   obtain ⟨h1, h2, _, h4, h5, _⟩ := HR.out.1 hc
   exact ⟨h1, h4, by rw [← H.out.2.2.2.2.1, ← H.out.2.2.2.2.2.1, h2], by rw [← H.out.2.2.2.2.2.2.1, ← H.out.2.2.2.2.2.2.2, h5]⟩)))
  have key : (k == k') = false ∨ k = k' ∧ ((nm.data.toList == nm'.data.toList) = false ∧ (nm.toList == nm'.toList) = false ∨ nm = nm' ∧ (((m : Int) == m') = false ∨ m = m' ∧ ((n : Int) == n') = false)) := by
   by_cases e1 : k = k'
   ·refine .inr ⟨e1, ?_⟩
    by_cases e2 : nm = nm'
    ·refine .inr ⟨e2, ?_⟩
     by_cases e3 : m = m'
     ·exact .inr ⟨e3, aO (fun e4 => he ⟨e1, e2, e3, by omega⟩)⟩
     ·exact .inl (aO (by omega))
    ·exact .inl (fH e2)
   ·exact .inl (aO e1)
  rcases key with t1 | ⟨rfl, ⟨t1, t3⟩ | ⟨rfl, t1 | ⟨rfl, t1⟩⟩⟩
  all_goals
   have t2 := gH t1
   clear he
   go_enter func39, ntmps39
   go_wp2_with fail
   rw [HW0.out]
   go_ret
   exact ⟨by rw [HQ.out]; rfl, HAL.out⟩
end Go.Proofs.YtgcfjkfipkfijaaGreatDoor
namespace Go.Proofs.YtgcfjkfipkfijaaGreatDoor
open Go Go.RowKit Go.ChangeShapes Go.WideShapes _root_.Go.Proofs.Tryz
open Go.Lib (VarReads)
def tU : List (String × DataW Unit) := [("math/bits.deBruijn32tab", Rows.laid_math_bits_deBruijn32tab), ("math/bits.deBruijn64tab", Rows.laid_math_bits_deBruijn64tab), ("internal/strconv.uint64pow10", Rows.laid_internal_strconv_uint64pow10), ("unicode/utf8.acceptRanges", Rows.laid_unicode_utf8_acceptRanges), ("unicode/utf8.first", Rows.laid_unicode_utf8_first)]
theorem own : ownKnob Tryz.prog.godebug = none := by kernel_rfl
noncomputable def iQ (os : Os) : World :=
 let w0 := World.doorLaid prog 34 os
 { w0 with heap := w0.heap.modify 0 fun
   | .cells _ t frozen => .cells (Lib.firstTab.map fun z => Value.int .u8 z).toArray t frozen
   | o => o }
theorem yl (os : Os) (args) : laidMetH prog tU ((iQ os).forCall (fun _ _ => 0) ⟨#[], args, []⟩).memory :=
 laidMetH_of_parts3 (fuel := 8) (laidMet_of_run' 8 (by kernel_rfl) (by kernel_rfl)) (by kernel_rfl) (by kernel_rfl)
theorem mQ {P W} {name : String} {k zs g t e n} (hg : P.globalNamed name = some g) (hty : (P.globals[g]?).map (·.type) = some t) (ht : P.underlying t = some (.array n e)) (he : P.underlying e = some (.int k)) (hce : P.cellsOf e = 1) (hct : P.cellsOf t = n) (h : VarReads P W name (Lib.tabData k zs)) : Lib.TabIs P W name k zs := by
 obtain ⟨g', t', cs, fuel, p, hg', ht', hvar, hd⟩ := h
 obtain rfl := e_ (hg.symm.trans hg')
 obtain rfl := e_ (hty.symm.trans ht')
 unfold Lib.TabIs
 rw [hvar, ← Lib.cells_of_tab ht he hce hct hd]
theorem An {P : Program} {W : World} {n : String} {g : Nat} {cs : Array Value} (hg : P.globalNamed n = some g) (h : W.var? P n = some cs) : g < W.heap.size := by
 unfold World.var? at h
 rw [hg] at h
 simp only [Option.bind_some] at h
 cases hh : W.heap[g]? with
 | none => rw [hh] at h; simp at h
 | some o => exact (C_ hh).1
theorem sT {W} (h : laidMetH prog tU W) : laidMet prog tU W := by
 rw [MakeChecks.laidMetH_plain _ _ _ (by kernel_rfl)] at h
 exact h
theorem ym : Rows.laid_unicode_utf8_first = Lib.firstData := by kernel_rfl
theorem vI : (Rows.laid_unicode_utf8_acceptRanges : DataW Unit) = Lib.acceptData := by kernel_rfl
theorem Ao : (Rows.laid_internal_strconv_uint64pow10 : DataW Unit) = Lib.tabData .u64 Lib.pow10Tab := by kernel_rfl
theorem yo : (Tryz.prog.globals[3]?).map (·.type) = some 179 := by kernel_rfl
theorem vJ : Tryz.prog.underlying 179 = some (.array 20 141) := by kernel_rfl
theorem vK : Tryz.prog.underlying 141 = some (.int .u64) := by kernel_rfl
theorem vL : Tryz.prog.cellsOf 141 = 1 := by kernel_rfl
theorem vM : Tryz.prog.cellsOf 179 = 20 := by kernel_rfl
theorem sU : Tryz.prog.globalNamed "math/bits.deBruijn64tab" = some 5 := by kernel_rfl
theorem yp : U8Extra prog Tryz.lays260_ren := ⟨by kernel_rfl, by kernel_rfl, by kernel_rfl, by kernel_rfl, by kernel_rfl, by kernel_rfl, by kernel_rfl⟩
theorem zE {W} (hL0 : laidMetH prog tU W) (hsh : W.ShapedOpen prog) : bq W := by
 have hL := sT hL0
 refine ⟨?_, ?_, ?_, ?_⟩
 ·exact utf8Tabs_of_reads Tryz.lays260 yp (ym ▸ Lib.laidMet.reads hL (.tail _ (.tail _ (.tail _ (.tail _ (.head _)))))) (vI ▸ Lib.laidMet.reads hL (.tail _ (.tail _ (.tail _ (.head _)))))
 ·exact Tryz.laysM219.s1_3 W hsh
 ·exact mQ lF yo vJ vK vL vM (Ao ▸ Lib.laidMet.reads hL (.tail _ (.tail _ (.head _))))
 ·obtain ⟨g, t, cs, fuel, p, h1, h2, h3, h4⟩ := Lib.laidMet.reads hL (.tail _ (.head _))
  obtain rfl := e_ (sU.symm.trans h1)
  exact An h1 h3
end Go.Proofs.YtgcfjkfipkfijaaGreatDoor
namespace Go.Proofs.YtgcfjkfipkfijaaGreatDoor
open Go Go.RowKit Go.Lib _root_.Go.Proofs.Tryz
open Classical in
theorem vN {P Q : Nat → Prop} (x y : lp) (pA : Option Addr) (pc : Nat) (nA : Option Addr) (nc : Nat) (pA' : Option Addr) (pc' : Nat) (nA' : Option Addr) (nc' : Nat) (w : World) (ha : iq P w x pA pc nA nc) (hb : iq Q w y pA' pc' nA' nc') :
  Calls prog 11 #[m5 x pA pc nA nc, m5 y pA' pc' nA' nc'] w fun r w' => r = .returned (.bool (decide (x = y))) ∧ Below w.heap.size w w' := by
 obtain ⟨nm, ps, ns⟩ := x
 obtain ⟨nm', ps', ns'⟩ := y
 obtain ⟨R, hR⟩ := nm_ (decide ((⟨nm, ps, ns⟩ : lp) = ⟨nm', ps', ns'⟩))
 rw [hR]
 have hR0 : R = true ↔ nm = nm' ∧ ps = ps' ∧ ns = ns' := by
  rw [← hR, decide_eq_true_iff]
  simp only [lp.mk.injEq]
 have hpm := (ha.prms.2 [] (by simp)).1
 have hpm' := (hb.prms.2 [] (by simp)).1
 have hnm := (ha.nds.2 [] (by simp)).1
 have hnm' := (hb.nds.2 [] (by simp)).1
 have hpc := ha.prms.1
 have hpc' := hb.prms.1
 have hnc := ha.nds.1
 have hnc' := hb.nds.1
 simp only at hpm hpm' hnm hnm' hpc hpc' hnc hnc'
 obtain ⟨m, hm⟩ := nm_ ps.length
 obtain ⟨m', hm'⟩ := nm_ ps'.length
 obtain ⟨n, hn⟩ := nm_ ns.length
 obtain ⟨n', hn'⟩ := nm_ ns'.length
 show Calls prog 11 #[.agg #[.string nm, .slice pA ps.length pc, .slice nA ns.length nc], .agg #[.string nm', .slice pA' ps'.length pc', .slice nA' ns'.length nc']] w _
 obtain ⟨w0, hw0, hal, hx, hy⟩ := fA (w := w) (cs := #[.string nm, .slice pA ps.length pc, .slice nA ns.length nc]) (ds := #[.string nm', .slice pA' ps'.length pc', .slice nA' ns'.length nc']) (t := 26) (u := 26)
 have H : Hid (aw iV P w pA pc ps ∧ aw iV Q w pA' pc' ps' ∧ aw nM P w nA nc ns ∧ aw nM Q w nA' nc' ns' ∧ ps.length = m ∧ ps'.length = m' ∧ ns.length = n ∧ ns'.length = n') := hid ⟨ha.prms, hb.prms, ha.nds, hb.nds, hm, hm', hn, hn'⟩
 have HX := hid hx
 have HY := hid hy
 have HW0 := hid hw0
 have HAL := hid hal
 have HR := hid hR0
 simp only [hm, hm', hn, hn'] at hpm hpm' hnm hnm' hpc hpc' hnc hnc' hx hy HX HY HW0 ⊢
 obtain ⟨⟨x0, x1, x2⟩, _⟩ := bx hx
 obtain ⟨⟨y0, y1, y2⟩, _⟩ := bx hy
 have hlx := ab hx
 have hly := ab hy
 clear ha hb hx hy hw0 hal hR hR0 hm hm' hn hn'
 by_cases he : nm = nm' ∧ m = m' ∧ n = n'
 ·obtain ⟨rfl, rfl, rfl⟩ := he
  go_enter func11, ntmps11
  go_wp2_with fail
  rw [HW0.out]
  go_loopg [5] (m + 1) (fun q s5 w' => ∃ j : Nat, s5 = .int .i64 j ∧ j ≤ m ∧ m - j < q ∧ ps.take j = ps'.take j ∧ Below w0.heap.size w0 w')
  case atStart => exact ⟨0, rfl, by omega, by omega, by simp, J_ _ _⟩
  case round =>
   obtain ⟨j, rfl, hj, hjk, htk, hbw⟩ := hrel
   obtain ⟨gk, rfl⟩ := pk_ gk 1 (by omega)
   clear x0 x1 x2 y0 y1 y2 hlx hly
   have hxr := bp_ hbw HX.out
   have hyr := bp_ hbw HY.out
   obtain ⟨⟨x0, x1, x2⟩, _⟩ := bx hxr
   obtain ⟨⟨y0, y1, y2⟩, _⟩ := bx hyr
   have hlx := ab hxr
   have hly := ab hyr
   have hS : Below w.heap.size w wr := HAL.out.trans (hbw.mono HAL.out.size)
   by_cases hlt : j < m
   ·have hix : j < ps.length := by rw [H.out.2.2.2.2.1]; exact hlt
    have hiy : j < ps'.length := by rw [H.out.2.2.2.2.2.1]; exact hlt
    obtain ⟨ad, rfl, c0, c1, c2, hcl⟩ := gb (H.out.1.below hS) j hix
    obtain ⟨bd, rfl, d0, d1, d2, hdl⟩ := gb (H.out.2.1.below hS) j hiy
    obtain ⟨a, haa⟩ := nm_ (ps[j])
    obtain ⟨b, hbb⟩ := nm_ (ps'[j])
    have HS := hid (⟨hix, hiy, haa, hbb, htk, hbw, hS⟩ : ∃ (h1 : j < ps.length) (h2 : j < ps'.length), ps[j] = a ∧ ps'[j] = b ∧ ps.take j = ps'.take j ∧ Below w0.heap.size w0 wr ∧ Below w.heap.size w wr)
    rw [haa] at c0 c1 c2
    rw [hbb] at d0 d1 d2
    obtain ⟨xn, xi, xs'⟩ := a
    obtain ⟨yn, yi, ys'⟩ := b
    simp only at c0 c1 c2 d0 d1 d2
    have hz : (j : Int) < m := by omega
    have hz0 : (0 : Int) ≤ j := by omega
    clear htk hbw hxr hyr haa hbb hS hix hiy
    by_cases hxy : (⟨xn, xi, xs'⟩ : ia) = ⟨yn, yi, ys'⟩
    ·injection hxy with e1 e2 e3
     subst e1 e2 e3
     go_wp2_with fail
     go_region
     all_goals
      go_wp2_with fail
      go_roundg gk
      case measure => omega
      case rel =>
       obtain ⟨h1, h2, e1, e2, h4, h5, _⟩ := HS.out
       exact ⟨j + 1, by go_num, by omega, by omega, dn h1 h2 h4 (e1.trans e2.symm), h5.drew⟩
    ·have HF : Hid (R = false) := hid (by
      obtain ⟨h1, h2, e1, e2, _⟩ := HS.out
      refine E_ (fun hc => ?_)
      exact im h1 h2 (fun e => hxy (by rw [← e1, ← e2, e])) (HR.out.1 hc).2.1)
     have fin : Hid (Below w.heap.size w wr) := hid (by obtain ⟨_, _, _, _, _, _, h6⟩ := HS.out; exact h6)
     by_cases q1 : xn = yn
     ·subst q1
      by_cases q2 : xi = yi
      ·subst q2
       have q3 : ¬ xs' = ys' := fun e => hxy (by rw [e])
       clear hxy
       go_wp2_with fail
       go_region
       all_goals
        go_wp2_with fail
        go_ret
        exact ⟨by rw [HF.out]; rfl, fin.out.drew⟩
      ·clear hxy
       go_wp2_with fail
       go_region
       all_goals
        go_wp2_with fail
        go_ret
        exact ⟨by rw [HF.out]; rfl, fin.out.drew⟩
     ·have q4 : ¬ xn.toList = yn.toList := fun e => q1 (by
       rw [Lib.toList_data, Lib.toList_data] at e
       exact ByteArray.ext (Array.toList_inj.1 e))
      clear hxy
      go_wp2_with fail
      go_region
      all_goals
       go_wp2_with fail
       go_ret
       exact ⟨by rw [HF.out]; rfl, fin.out.drew⟩
   ·obtain rfl : j = m := by omega
    have HK := hid (eR H.out.2.2.2.2.1 H.out.2.2.2.2.2.1 htk rfl)
    have HB := hid hbw
    clear htk hbw hxr hyr hS
    go_wp2_with fail
    clear x0 x1 x2 y0 y1 y2 hlx hly
    go_loopg [6] (n + 1) (fun q s6 w' => ∃ i : Nat, s6 = .int .i64 i ∧ i ≤ n ∧ n - i < q ∧ ns.take i = ns'.take i ∧ Below w0.heap.size w0 w')
    case atStart => exact ⟨0, rfl, by omega, by omega, by simp, HB.out⟩
    case round =>
     obtain ⟨i, rfl, hi, hik, htk, hbw⟩ := hrel
     obtain ⟨gi, rfl⟩ := pk_ gk 1 (by omega)
     have hxr := bp_ hbw HX.out
     have hyr := bp_ hbw HY.out
     obtain ⟨⟨x0, x1, x2⟩, _⟩ := bx hxr
     obtain ⟨⟨y0, y1, y2⟩, _⟩ := bx hyr
     have hlx := ab hxr
     have hly := ab hyr
     have hS : Below w.heap.size w wr := HAL.out.trans (hbw.mono HAL.out.size)
     by_cases hlt : i < n
     ·have hix : i < ns.length := by rw [H.out.2.2.2.2.2.2.1]; exact hlt
      have hiy : i < ns'.length := by rw [H.out.2.2.2.2.2.2.2]; exact hlt
      have hR1 := H.out.2.2.1.below hS
      have hR2 := H.out.2.2.2.1.below hS
      obtain ⟨ad, rfl⟩ := dX hR1 i hix
      obtain ⟨bd, rfl⟩ := dX hR2 i hiy
      obtain ⟨ukA, ukc, uuA, uuc, ugA, ugc, ueA, uec, ⟨c0, c1, c2, c3, c4, c5, c6, c7, c8⟩, hu1, hu2, hu3, hu4, hul⟩ := da hR1 i hix
      obtain ⟨vkA, vkc, vuA, vuc, vgA, vgc, veA, vec, ⟨d0, d1, d2, d3, d4, d5, d6, d7, d8⟩, hv1, hv2, hv3, hv4, hvl⟩ := da hR2 i hiy
      obtain ⟨a, haa⟩ := nm_ (ns[i])
      obtain ⟨b, hbb⟩ := nm_ (ns'[i])
      rw [haa] at c0 c1 c2 c3 c4 c5 c6 c7 c8 hu1 hu2 hu3 hu4
      rw [hbb] at d0 d1 d2 d3 d4 d5 d6 d7 d8 hv1 hv2 hv3 hv4
      have HC : Hid (∀ W, Below wr.heap.size wr W → _) := hid (fun W hW => vH a b _ _ _ _ _ _ _ _ _ _ _ _ _ _ _ _ W (vP.below ⟨hu1, hu2, hu3, hu4⟩ hW) (vP.below ⟨hv1, hv2, hv3, hv4⟩ hW))
      obtain ⟨t, ht⟩ := nm_ (decide (a = b))
      simp only [ht] at HC
      have HS := hid (⟨hix, hiy, haa, hbb, htk, hbw, hS, ht⟩ : ∃ (h1 : i < ns.length) (h2 : i < ns'.length), ns[i] = a ∧ ns'[i] = b ∧ ns.take i = ns'.take i ∧ Below w0.heap.size w0 wr ∧ Below w.heap.size w wr ∧ decide (a = b) = t)
      have hz : (i : Int) < n := by omega
      have hz0 : (0 : Int) ≤ i := by omega
      clear hu1 hu2 hu3 hu4 hv1 hv2 hv3 hv4 hR1 hR2 htk hbw hxr hyr haa hbb hS ht hix hiy
      go_wp2_with fail
      go_cut [7] (fun s7 wx => s7 = .bool t ∧ Below wr.heap.size wr wx)
      case first =>
       go_region_with ((go_at_call 39; refine (HC.out _ ?_).mono ?_; (first | exact J_ _ _ | exact (J_ _ _).drew); rintro r w5 ⟨rfl, hb5⟩; have HB5 := hid hb5; clear hb5))
       all_goals
        go_wp2_with fail
        go_meet
        exact ⟨rfl, by first | exact HB5.out | exact (J_ _ _).drew.trans HB5.out⟩
      case rest =>
       obtain ⟨rfl, hbx⟩ := hcut
       have HBX := hid hbx
       clear hbx c0 c1 c2 c3 c4 c5 c6 c7 c8 d0 d1 d2 d3 d4 d5 d6 d7 d8 x0 x1 x2 y0 y1 y2 hlx hly hul hvl
       cases t
       ·have HF : Hid (R = false) := hid (by
         obtain ⟨h1, h2, e1, e2, _, _, _, h8⟩ := HS.out
         refine E_ (fun hc => ?_)
         exact im h1 h2 (fun e => of_decide_eq_false h8 (by rw [← e1, ← e2, e])) (HR.out.1 hc).2.2)
        have fin : Hid (Below w.heap.size w wr) := hid (by obtain ⟨_, _, _, _, _, _, h6, _⟩ := HS.out; exact h6)
        go_wp2_with fail
        go_ret
        exact ⟨by rw [HF.out]; rfl, fin.out.trans (HBX.out.mono fin.out.size)⟩
       ·go_wp2_with fail
        go_roundg gi
        case measure => omega
        case rel =>
         obtain ⟨h1, h2, e1, e2, h4, h5, _, h8⟩ := HS.out
         exact ⟨i + 1, by go_num, by omega, by omega, dn h1 h2 h4 (by rw [e1, e2]; exact of_decide_eq_true h8), h5.trans (HBX.out.mono h5.size)⟩
     ·obtain rfl : i = n := by omega
      have HF : Hid (R = true) := hid (HR.out.2 ⟨by first | exact rfl | trivial, HK.out, eR H.out.2.2.2.2.2.2.1 H.out.2.2.2.2.2.2.2 htk rfl⟩)
      have HB2 := hid hS
      clear htk hbw hxr hyr hS
      go_wp2_with fail
      go_ret
      exact ⟨by rw [HF.out]; rfl, HB2.out⟩
 ·have HQ : Hid (R = false) := hid (E_ (fun hc => he (by
   obtain ⟨h1, h2, h3⟩ := HR.out.1 hc
   exact ⟨h1, by rw [← H.out.2.2.2.2.1, ← H.out.2.2.2.2.2.1, h2], by rw [← H.out.2.2.2.2.2.2.1, ← H.out.2.2.2.2.2.2.2, h3]⟩)))
  have key : ((nm.data.toList == nm'.data.toList) = false ∧ (nm.toList == nm'.toList) = false) ∨ nm = nm' ∧ (((m : Int) == m') = false ∨ m = m' ∧ ((n : Int) == n') = false) := by
   by_cases e2 : nm = nm'
   ·refine .inr ⟨e2, ?_⟩
    by_cases e3 : m = m'
    ·exact .inr ⟨e3, aO (fun e4 => he ⟨e2, e3, by omega⟩)⟩
    ·exact .inl (aO (by omega))
   ·exact .inl (fH e2)
  rcases key with ⟨t1, t3⟩ | ⟨rfl, t1 | ⟨rfl, t1⟩⟩
  all_goals
   have t2 := gH t1
   clear he
   go_enter func11, ntmps11
   go_wp2_with fail
   rw [HW0.out]
   go_ret
   exact ⟨by rw [HQ.out]; rfl, HAL.out⟩
theorem yq {s} (h : (cB s).2.1 ≠ 0) : (cB s).1 = ko := by
 unfold cB at h ⊢
 simp only at h ⊢
 split
 ·rfl
 ·rename_i h0
  rw [K_ h0] at h
  split
  ·rfl
  ·rename_i h1
   rw [K_ h1] at h
   exact absurd rfl h
theorem iz {s} (h : gl s) : s.size ≤ 48 := by
 have := jS h.1
 rwa [ak] at this
theorem yr {e} (h : ic e) : tK e := by
 induction h with
 | num _ => exact .mk (h_ _) (fun k hk => by simp at hk)
 | @name s h0 => exact .mk (by have := jS h0; rw [ak] at this; omega) (fun k hk => by simp at hk)
 | un _ _ ih => exact .mk (h_ _) (fun k hk => by simp at hk; subst hk; exact ih)
 | bin _ _ _ _ iha ihb => exact .mk (h_ _) (fun k hk => by simp at hk; rcases hk with rfl | rfl; exact iha; exact ihb)
theorem zQ : tK dP := .mk (h_ _) (fun k hk => by simp at hk)
theorem yt : ch dP := ⟨⟨by decide, by decide⟩, ⟨by decide, by decide⟩, h_ _, fun k hk => by simp at hk⟩
theorem q9 : ∀ N : Nat, (∀ p : Pc, SizeOf.sizeOf p < N → jw p → ∀ b, ∀ x, x ∈ bV b p → g9 x ∧ sx x) ∧ ∀ ps : List Pc, SizeOf.sizeOf ps < N → et ps → ∀ b, ∀ x, x ∈ (aJ b ps).1 → g9 x ∧ sx x := by
 have hz : ∀ (k : Int) (ks : List Int) (us : List ByteArray), us.length ≤ 5 → (∀ u, u ∈ us → gl u) → g9 ⟨k, ks, us, ⟨#[]⟩, [], dP⟩ ∧ sx ⟨k, ks, us, ⟨#[]⟩, [], dP⟩ := fun k ks us h5 hu =>
  ⟨⟨h_ _, by show us.length ≤ _; omega, fun u h => by have := iz (hu u h); omega, fun a ha => by simp at ha, yt⟩, zQ, fun a ha => by simp at ha⟩
 intro N
 induction N with
 | zero => exact ⟨fun p h => by omega, fun ps h => by omega⟩
 | succ N ih =>
  refine ⟨fun p h hw b x hx => ?_, fun ps h hw b x hx => ?_⟩
  ·cases p with
   | row k us kids =>
    rw [jw] at hw
    rw [bV] at hx
    rcases List.mem_cons.1 hx with rfl | hx
    ·rcases hw.1 with ⟨_, rfl⟩ | ⟨_, hu⟩
     ·exact hz _ _ _ (h_ _) (fun u hu => by simp at hu)
     ·exact hz _ _ _ hu.2.1 hu.2.2.2
    ·exact ih.2 kids (by simp at h; omega) hw.2 _ x hx
   | choice e a c =>
    rw [jw] at hw
    simp at h
    rw [bV] at hx
    rcases List.mem_cons.1 hx with rfl | hx
    ·exact ⟨⟨h_ _, h_ _, fun u h => by simp at h, fun a ha => by simp at ha, hw.1.2.1⟩, yr hw.1.1, fun a ha => by simp at ha⟩
    ·rcases List.mem_cons.1 hx with rfl | hx
     ·exact hz _ _ _ (h_ _) (fun u hu => by simp at hu)
     ·rcases G_ hx with hx | hx
      ·exact ih.2 a (by omega) hw.2.1 _ x hx
      ·rcases List.mem_cons.1 hx with rfl | hx
       ·exact hz _ _ _ (h_ _) (fun u hu => by simp at hu)
       ·exact ih.2 c (by omega) hw.2.2 _ x hx
   | step nm al =>
    rw [jw] at hw
    rw [bV] at hx
    simp at hx
    subst hx
    refine ⟨⟨by have := iz hw.1; show nm.size ≤ _; omega, h_ _, fun u h => by simp at h, fun a ha => ?_, yt⟩, zQ, fun a ha => yr (hw.2.2.2 a ha).2.1⟩
    have h1 := hw.2.2.2 a ha
    exact ⟨by have := iz h1.1; omega, h1.2.2.1⟩
  ·cases ps with
   | nil => rw [bM] at hx; simp at hx
   | cons p ps =>
    rw [et] at hw
    simp at h
    rw [aX] at hx
    rcases G_ hx with hx | hx
    ·exact ih.1 p (by omega) hw.1 _ x hx
    ·exact ih.2 ps (by omega) hw.2 _ x hx
theorem vO {r ks} (h : sQ r ks) : m4 r ∧ ∀ x, x ∈ r.nodes → sx x := by
 have h1 : ∀ x, x ∈ r.nodes → g9 x ∧ sx x := fun x hx => by
  rw [h.nodes] at hx
  exact (q9 (SizeOf.sizeOf (Pc.row 0 [] ks) + 1)).1 (.row 0 [] ks) (by omega) (by rw [jw]; exact ⟨.inl ⟨.inl rfl, rfl⟩, h.kids⟩) 0 x hx
 refine ⟨⟨by have := iz h.name; omega, fun p hp => ?_, fun x hx => (h1 x hx).1⟩, fun x hx => (h1 x hx).2⟩
 have h2 := h.prms.2.2 p hp
 exact ⟨by have := iz h2.1; omega, by have := h2.2.1; exact ⟨by omega, h2.2.2⟩⟩
structure tV (w0 w : World) : Prop where
 tabs : bq w
 below : Below w0.heap.size w0 w
theorem tV.step {w0 w w'} (h : tV w0 w) (hb : Below w.heap.size w w') : tV w0 w' := ⟨h.tabs.below hb, h.below.trans (hb.mono h.below.size)⟩
theorem sV (s w) (hT : bq w) (_hs : s.size ≤ maxLen) :
  Calls prog 5 #[.string s] w fun r w' => r = .returned (.bool true) ∧ Below w.heap.size w w' := by
 have H0 := hid (tV.mk hT (J_ w.heap.size w))
 obtain ⟨⟨x, e0, a0⟩, hp⟩ : ∃ p, cB s = p := ⟨_, rfl⟩
 have HP := hid hp
 clear hT hp
 by_cases h3 : (9000 : Int) < s.size
 ·clear HP
  go_enter func5, ntmps5
  go_wp2_with fail
  refine (jr w H0.out.tabs).mono ?_
  rintro r w1 ⟨rfl, hb1⟩
  have H1 := hid (H0.out.step hb1)
  clear hb1
  go_wp2_with fail
  go_ret
  exact ⟨rfl, H1.out.below⟩
 have h3' : (s.size : Int) ≤ 9000 := by omega
 clear h3
 have HPA : Hid (∀ W, bq W → Calls prog 9 #[.string s] W (iM (x, e0, a0) W)) := hid (fun W h => by
  have := gJ s W h (by omega)
  rwa [HP.out] at this)
 by_cases he : e0 = 0
 ·subst he
  have hpz : (cB s).2.1 = 0 := by rw [HP.out]
  have hag := zD hpz
  have hsh : m4 x ∧ ∀ y, y ∈ x.nodes → sx y := by
   obtain ⟨ks, hks⟩ := yf hpz
   rw [HP.out] at hks
   exact vO hks
  rw [HP.out] at hag
  simp only at hag
  have HSH := hid hsh
  have HAG := hid hag
  clear HP hpz hag hsh
  go_enter func5, ntmps5
  go_wp2_with fail
  refine (jr w H0.out.tabs).mono ?_
  rintro r w1 ⟨rfl, hb1⟩
  have H1 := hid (H0.out.step hb1)
  clear hb1
  go_wp2_with fail
  refine (HPA.out w1 H1.out.tabs).mono ?_
  rintro r w2 ⟨pA, pc, nA, nc, rfl, hpp, hnn, hb2⟩
  simp only at hpp hnn
  go_upto_region 5 with fail
  obtain ⟨w3, hw3, hb3, _⟩ := alo_ w2 (.cells #[.string x.name, .slice pA x.params.length pc, .slice nA x.nodes.length nc] 26)
  obtain ⟨K, hK⟩ := nm_ w2.heap.size
  have hx3 : w3.heap[K]? = some (.cells #[.string x.name, .slice pA x.params.length pc, .slice nA x.nodes.length nc] 26 (0, 0)) := by rw [← hK, ← hw3]; exact I_ _ _
  have H3 := hk_ ((H1.out.step hb2).step hb3) (iq.below (r := x) ⟨hpp, hnn⟩ hb3) hx3
  rw [hw3, hK]
  obtain ⟨⟨x0, x1, x2⟩, _⟩ := bx hx3
  have hlx := ab hx3
  clear hb2 hpp hnn hb3 hx3 hw3
  go_wp2_with fail
  refine (sA x pA pc nA nc w3 H3.out.2.1 HSH.out.1 HSH.out.2).mono ?_
  rw [HAG.out.1]
  rintro r w4 ⟨rfl, hb4⟩
  have H4 := hk_ (H3.out.1.step hb4) (H3.out.2.1.below hb4) ((hb4.block K hlx).trans H3.out.2.2)
  have hst : (str (cb x).1).size = (cb x).1.length := aY _
  clear hb4 x0 x1 x2 hlx
  obtain ⟨⟨x0, x1, x2⟩, _⟩ := bx H4.out.2.2
  have hlx := ab H4.out.2.2
  have HMY := hid (ir x pA pc nA nc w4 H4.out.2.1 HSH.out.1 H4.out.1.tabs)
  have HPR := hid (mr x pA pc nA nc w4 H4.out.2.1 HSH.out.1 H4.out.1.tabs)
  have htl := nY HSH.out.1
  have hag := HAG.out
  obtain ⟨TX, hTX⟩ := nm_ (cb x)
  rw [hTX] at hst hag htl ⊢
  obtain ⟨tx, tb⟩ := TX
  simp only at hst hag htl ⊢
  by_cases hl : 8192 < tx.length
  ·have hm := hag.2.2.1 hl
   rw [hm] at HMY
   have hlz : (8192 : Int) < (str tx).size := by omega
   clear hag hTX hst hm htl
   go_wp2_with fail
   refine HMY.out.mono ?_
   rintro r w5 ⟨rfl, hb5⟩
   have H5 := hid (H4.out.1.step hb5)
   clear hb5
   go_wp2_with fail
   go_ret
   exact ⟨rfl, H5.out.below⟩
  ·have hm := hag.2.2.2 (by omega)
   have hlz : ¬ (8192 : Int) < (str tx).size := by omega
   obtain ⟨PR, hPR⟩ := nm_ (gG x)
   have hprs : PR.size ≤ 9223372036854775806 := by
    rw [← hPR]
    unfold gG
    rw [M_ hm.1, aY, hTX]
    show tx.length ≤ _
    omega
   rw [hPR] at hm HPR
   have HPB : Hid (∀ W, bq W → Calls prog 9 #[.string PR] W (iM (x, 0, 0) W)) := hid (fun W h => by
    have := gJ PR W h hprs
    rwa [hm.2] at this)
   have HM := hid hm.1
   clear hag hTX hst hm htl hPR hprs HMY
   go_wp2_with fail
   refine HPR.out.mono ?_
   rintro r w5 ⟨rfl, hb5⟩
   have H5 := hk_ (H4.out.1.step hb5) (H4.out.2.1.below hb5) ((hb5.block K hlx).trans H4.out.2.2)
   clear hb5 x0 x1 x2 hlx
   go_wp2_with fail
   refine (HPB.out w5 H5.out.1.tabs).mono ?_
   rintro r w6 ⟨pA', pc', nA', nc', rfl, hpp, hnn, hb6⟩
   simp only at hpp hnn
   have hb56 := H5.out.1.step hb6
   have hx6 := bp_ hb6 H5.out.2.2
   have hR6 := H5.out.2.1.below hb6
   go_upto_region 11 with fail
   obtain ⟨w7, hw7, hb7, _⟩ := alo_ w6 (.cells #[.string x.name, .slice pA' x.params.length pc', .slice nA' x.nodes.length nc'] 26)
   obtain ⟨K', hK'⟩ := nm_ w6.heap.size
   have hy7 : w7.heap[K']? = some (.cells #[.string x.name, .slice pA' x.params.length pc', .slice nA' x.nodes.length nc'] 26 (0, 0)) := by rw [← hK', ← hw7]; exact I_ _ _
   have hx7 := bp_ hb7 hx6
   have H7 := hk_ (hb56.step hb7) (hR6.below hb7) hx7
   have hS := vN x x pA' pc' nA' nc' pA pc nA nc w7 (iq.below ⟨hpp, hnn⟩ hb7) H7.out.2.1
   rw [@decide_eq_true (x = x) (Classical.propDecidable _) rfl] at hS
   have HS := hid hS
   rw [hw7, hK']
   obtain ⟨⟨x0, x1, x2⟩, _⟩ := bx hx7
   obtain ⟨⟨y0, y1, y2⟩, _⟩ := bx hy7
   have hlx := ab hx7
   have hly := ab hy7
   clear hpp hnn hb6 hb56 hx6 hR6 hw7 hb7 hK' hy7 hx7 hS
   go_wp2_with fail
   refine HS.out.mono ?_
   rintro e w8 ⟨rfl, hb8⟩
   have H8 := hk_ (H7.out.1.step hb8) (H7.out.2.1.below hb8) ((hb8.block K hlx).trans H7.out.2.2)
   clear hb8 x0 x1 x2 y0 y1 y2 hlx hly
   obtain ⟨⟨x0, x1, x2⟩, _⟩ := bx H8.out.2.2
   have hlx := ab H8.out.2.2
   have HM8 := hid (ir x pA pc nA nc w8 H8.out.2.1 HSH.out.1 H8.out.1.tabs)
   rw [HM.out] at HM8
   go_wp2_with fail
   refine HM8.out.mono ?_
   rintro r w9 ⟨rfl, hb9⟩
   have H9 := hid (H8.out.1.step hb9)
   clear hb9
   go_wp2_with fail
   go_ret
   exact ⟨rfl, H9.out.below⟩
 ·have t1 := jA he
  have hx : x = ko := by
   have := yq (s := s) (by rw [HP.out]; exact he)
   rwa [HP.out] at this
  subst hx
  clear HP
  go_enter func5, ntmps5
  go_wp2_with fail
  refine (jr w H0.out.tabs).mono ?_
  rintro r w1 ⟨rfl, hb1⟩
  have H1 := hid (H0.out.step hb1)
  clear hb1
  go_wp2_with fail
  refine (HPA.out w1 H1.out.tabs).mono ?_
  rintro r w2 ⟨pA, pc, nA, nc, rfl, _, _, hb2⟩
  go_upto_region 5 with fail
  obtain ⟨w3, hw3, hb3, _⟩ := alo_ w2 (.cells #[.string ko.name, .slice pA ko.params.length pc, .slice nA ko.nodes.length nc] 26)
  obtain ⟨K, hK⟩ := nm_ w2.heap.size
  have hx3 : w3.heap[K]? = some (.cells #[.string ko.name, .slice pA ko.params.length pc, .slice nA ko.nodes.length nc] 26 (0, 0)) := by rw [← hK, ← hw3]; exact I_ _ _
  have H3 := hid ((H1.out.step hb2).step hb3)
  rw [hw3, hK]
  obtain ⟨⟨x0, x1, x2⟩, _⟩ := bx hx3
  have hlx := ab hx3
  have x2 : w3.cell? ⟨K, 2, none⟩ = some (.slice nA 0 nc) := x2
  clear hb2 hb3 hx3 hw3
  go_wp2_with fail
  go_ret
  exact ⟨rfl, H3.out.below⟩
end Go.Proofs.YtgcfjkfipkfijaaGreatDoor
namespace Go.Proofs.YtgcfjkfipkfijaaGreatDoor
open Go Go.RowKit Go.ChangeShapes Go.WideShapes Go.ChangeMaps _root_.Go.Proofs.Tryz
theorem mR (os : Os) {H : Type} (enc : TypeId × Value → H) :
  (OpenSpec.ofChange Rows.recipeAgainSpec).preRow enc prog Tryz.f5 Rows.recipeAgainRow.domain false Rows.recipeAgainRow.laid ((iQ os).forCall (fun _ _ => 0) ⟨#[], #[.string ⟨#[]⟩], []⟩).memory #[.string ⟨#[]⟩] := by
 have hw : (DataW.whole enc prog ((iQ os).forCall (fun _ _ => 0) ⟨#[], #[.string ⟨#[]⟩], []⟩).memory Tryz.f5.params.toList (OpenSpec.ofChange Rows.recipeAgainSpec).vars false #[Value.string ⟨#[]⟩].toList 8).map (fun x => (x.1, x.2.1)) =
   some ([.lit (.string [])], []) := by kernel_rfl
 obtain ⟨⟨x1, x2, x3⟩, hx, hx1⟩ := Option.map_eq_some_iff.1 hw
 simp only [Prod.mk.injEq] at hx1
 obtain ⟨rfl, rfl⟩ := hx1
 exact OpenSpec.preRow_of_cond 8 hx (by kernel_rfl) (fun k hk => by cases hk) (by kernel_rfl) (yl os _)
theorem na (os : Os) (started : os.Started) (H : Type) (enc : TypeId × Value → H) (F : Stop.Interp) :
  ReturnsInHanded {} Tryz.checked os 5 .any ((OpenSpec.ofChange Rows.recipeAgainSpec).preRow enc prog Tryz.f5 Rows.recipeAgainRow.domain false Rows.recipeAgainRow.laid)
   (((OpenSpec.ofChange Rows.recipeAgainSpec).at F).post enc prog Tryz.f5 false true false false) := by
 refine returnsInHanded_of_row (C := Tryz.checked) (s := OpenSpec.ofChange Rows.recipeAgainSpec) own started (by kernel_rfl) func5
  (witness_row_atRef (enc := enc) (C := Tryz.checked) false (iQ os) #[.string ⟨#[]⟩] rfl (by kernel_rfl) (by kernel_rfl) (by kernel_rfl) (mR os enc)) ?_
 intro W base args ds gs before hval0 hW _ _ _ hL hsh _
 have hval : ∀ (j : Nat) t v, Tryz.f5.params[j]? = some t → args[j]? = some v → Value.okWide prog W .any base t v := hval0
 have hW' := hW
 obtain ⟨p, q, hA0, hV0, rfl, _, _⟩ := hW
 have hA : DataW.TrodAll enc prog W 0 (fun _ => true) true Tryz.f5.params.toList args.toList ds p := hA0
 rw [Tryz.params5] at hA hval
 obtain ⟨v0, d0, rfl, rfl, h0⟩ := trodAll_one hA
 obtain ⟨rfl, rfl⟩ := trodVars_none hV0
 obtain ⟨s, rfl, rfl, rfl, ws⟩ := open_string underlying9 (hval 0 9 v0 rfl rfl) h0
 clear hA0 hV0 hval0
 simp only [List.append_nil] at hW'
 refine (sV s W (zE hL hsh) ws).mono ?_
 rintro e W' ⟨rfl, bel⟩
 have e1 : ((OpenSpec.ofChange Rows.recipeAgainSpec).at F).fn H ([.lit (.string s.data.toList)] ++ []) = { results := [.lit (.bool true)], args := [.lit (.string s.data.toList)] } := rfl
 refine ⟨_, rfl, _, _, _, [], [], [], hW', ?_, ?_, ?_, bel.frame _, fun h => by cases h⟩
 ·rw [e1]; exact trodAll_mk1 (shut_bool underlying4 true)
 ·rw [e1]; exact trodAll_mk1 (shut_string underlying9 ws)
 ·rw [e1]; rfl
theorem pa : Rows.RecipeAgainSaid :=
 OpenClaim.holds_of_cond 5 Tryz.f5 rfl rfl rfl rfl rfl rfl rfl ⟨rfl, rfl, rfl, rfl, rfl⟩ rfl rfl rfl rfl rfl (by kernel_rfl) func5 (by kernel_rfl)
  (of_decide_eq_true (by kernel_rfl)) (by unfold Func.isWrapper; rw [K_ (of_decide_eq_false (by kernel_rfl))]; exact ⟨rfl, rfl⟩)
  (fun os started H enc _ F0 => by rw [OpenClaim.pre_eq_preRow]; exact na os started H enc F0)
theorem ragain_card : Rows.RecipeAgainCardSaid :=
 Claim7.holds_tied_plain_at .later [] [.data, .data, .data, .data, .pinned] true (true, "04ca698ff224db9bd73a9a6d26b4a2bcbb32795aec38f415137af063ca9367ec") true
  pa (fun _ h => by cases h) (by kernel_rfl) (fun _ h => by cases h) recipeAgain_row_tie rfl ⟨rfl, rfl⟩ (by kernel_rfl) rfl
  (fun f fn hf hfn => by
    obtain rfl : f = 5 := e_ ((show Tryz.prog.funcNamed "malthouse/malthouselaw15.RecipeAgain" = some 5 by kernel_rfl).symm.trans hf) |>.symm
    obtain rfl : fn = Tryz.f5 := (e_ (Tryz.func5.symm.trans hfn)).symm
    exact ⟨by kernel_rfl, fun j t ht => by
     rw [Tryz.params5] at ht
     have h3 : t = 9 := by
      rcases j with _ | j
      ·simpa using ht.symm
      ·simp at ht
     subst h3
     exact (show Tryz.prog.wantsStandIn 9 = false by kernel_rfl)⟩)
  (by kernel_rfl)
end Go.Proofs.YtgcfjkfipkfijaaGreatDoor
