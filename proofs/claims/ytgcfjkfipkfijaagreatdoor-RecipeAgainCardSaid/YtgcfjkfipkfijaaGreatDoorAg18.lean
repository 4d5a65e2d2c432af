/- Part 18 of the proof of ragain_card; no conditions. -/
import Derived.Test.YtgcfjkfipkfijaaGreatDoorAg01
import Derived.Test.YtgcfjkfipkfijaaGreatDoorAg15
import Derived.Test.YtgcfjkfipkfijaaGreatDoorAg17
set_option maxRecDepth 100000
set_option maxHeartbeats 16000000
namespace Go.Proofs.YtgcfjkfipkfijaaGreatDoor
open Go Go.RowKit Go.Lib Tryz
variable {P Q : Nat → Prop}
theorem uY (args W) : (callFunc 99 args).run prog W = .ok (.enter 99 args) W := enters_of func99 (by kernel_rfl) rfl args W
theorem uZ (args W) : (callFunc 71 args).run prog W = .ok (.enter 71 args) W := enters_of func71 (by kernel_rfl) rfl args W
open Classical in
theorem sa (x y : Ar) (A : Option Addr) (c : Nat) (B : Option Addr) (d : Nat) (w : World) (ha : cx P w x.e A c) (hb : cx Q w y.e B d) :
  Calls prog 99 #[.agg #[.string x.name, .int .i64 x.e.op, .int .i64 x.e.n, .string x.e.name, .slice A x.e.kids.length c], .agg #[.string y.name, .int .i64 y.e.op, .int .i64 y.e.n, .string y.e.name, .slice B y.e.kids.length d]] w
   fun r w' => r = .returned (.bool (decide (x = y))) ∧ Below w.heap.size w w' := by
 obtain ⟨nm, e⟩ := x
 obtain ⟨nm', e'⟩ := y
 simp only at ha hb ⊢
 have HE : Hid (∀ W, Below w.heap.size w W → Calls prog 100 #[cM e A c, cM e' B d] W fun r w' => r = .returned (.bool (decide (e = e'))) ∧ Below W.heap.size W w') := hid (fun W hW => nT e e' A c B d W (ha.below hW) (hb.below hW))
 obtain ⟨q, hq⟩ := nm_ (decide (e = e'))
 rw [hq] at HE
 obtain ⟨R, hR⟩ := nm_ (decide ((⟨nm, e⟩ : Ar) = ⟨nm', e'⟩))
 rw [hR]
 obtain ⟨w0, hw0, hal, hx, hy⟩ := fA (w := w) (cs := #[.string nm, .int .i64 e.op, .int .i64 e.n, .string e.name, .slice A e.kids.length c]) (ds := #[.string nm', .int .i64 e'.op, .int .i64 e'.n, .string e'.name, .slice B e'.kids.length d]) (t := 75) (u := 75)
 obtain ⟨x0, x1, x2, x3, x4⟩ := tD hx
 obtain ⟨y0, y1, y2, y3, y4⟩ := tD hy
 have hlx := ab hx
 have hly := ab hy
 have HW0 := hid hw0
 have HAL := hid hal
 have HR := hj_ hq hR
 clear ha hb hx hy hw0 hal hq hR
 by_cases h1 : nm = nm'
 ·subst h1
  have HQ : Hid (R = q) := hid (by rw [← HR.out.1, ← HR.out.2]; simp)
  go_enter func99, ntmps99
  go_wp2_with fail
  rw [HW0.out]
  refine (HE.out _ HAL.out).mono ?_
  rintro r w5 ⟨rfl, hb5⟩
  have HB5 := tm_ HAL hb5
  clear hb5
  go_wp2_with fail
  go_ret
  exact ⟨by rw [HQ.out]; rfl, HB5.out⟩
 ·have HQ : Hid (R = false) := hid (by rw [← HR.out.2]; exact V_ (fun e => h1 (by injection e)))
  obtain ⟨t1, t3⟩ := fH h1
  go_enter func99, ntmps99
  go_wp2_with fail
  rw [HW0.out]
  go_ret
  exact ⟨by rw [HQ.out]; rfl, HAL.out⟩
theorem nX {w : World} {k : Nat} {v0 v1 v2 v3 v4 v5 v6 v7 v8 : Value} {t : TypeId} (h : w.heap[k]? = some (.cells #[v0, v1, v2, v3, v4, v5, v6, v7, v8] t (0, 0))) :
  (w.cell? ⟨k, 0, none⟩ = some v0 ∧ w.cell? ⟨k, 1, none⟩ = some v1 ∧ w.cell? ⟨k, 2, none⟩ = some v2 ∧ w.cell? ⟨k, 3, none⟩ = some v3 ∧ w.cell? ⟨k, 4, none⟩ = some v4) ∧ w.cell? ⟨k, 5, none⟩ = some v5 ∧ w.cell? ⟨k, 6, none⟩ = some v6 ∧ w.cell? ⟨k, 7, none⟩ = some v7 ∧ w.cell? ⟨k, 8, none⟩ = some v8 :=
 ⟨⟨aa h 0, aa h 1, aa h 2, aa h 3, aa h 4⟩, aa h 5, aa h 6, aa h 7, aa h 8⟩
open Classical in
theorem u4 (x y : Nd) (kA : Option Addr) (kc : Nat) (uA : Option Addr) (uc : Nat) (gA : Option Addr) (gc : Nat) (eA : Option Addr) (ec : Nat) (kA' : Option Addr) (kc' : Nat) (uA' : Option Addr) (uc' : Nat) (gA' : Option Addr) (gc' : Nat) (eA' : Option Addr) (ec' : Nat) (w : World)
  (ha : vP P w x kA kc uA uc gA gc eA ec) (hb : vP Q w y kA' kc' uA' uc' gA' gc' eA' ec') :
  Calls prog 71 #[AB x kA kc uA uc gA gc eA ec, AB y kA' kc' uA' uc' gA' gc' eA' ec'] w fun r w' => r = .returned (.bool (decide (x = y))) ∧ Below w.heap.size w w' := by
 obtain ⟨k, ki, us, nm, al, e⟩ := x
 obtain ⟨k', ki', us', nm', al', e'⟩ := y
 have H1 : Hid (∀ W, Below w.heap.size w W → Calls prog 101 #[.slice kA ki.length kc, .slice kA' ki'.length kc'] W fun r w' => r = .returned (.bool (decide (ki = ki'))) ∧ Below W.heap.size W w') := hid (fun W hW => zb (ha.kids.below hW) (hb.kids.below hW))
 have H2 : Hid (∀ W, Below w.heap.size w W → Calls prog 102 #[.slice uA us.length uc, .slice uA' us'.length uc'] W fun r w' => r = .returned (.bool (decide (us = us'))) ∧ Below W.heap.size W w') := hid (fun W hW => zc (ha.units.below hW) (hb.units.below hW))
 have H3 : Hid (∀ W, Below w.heap.size w W → Calls prog 103 #[.slice gA al.length gc, .slice gA' al'.length gc', .func (.func 99) #[] #[]] W fun r w' => r = .returned (.bool (decide (al = al'))) ∧ Below W.heap.size W w') :=
  hid (fun W hW => zf (ha.args.below hW) (hb.args.below hW) uY (fun i hi hj u v W' hW' hu hv => by
   obtain ⟨A, c, rfl, hx⟩ := hu
   obtain ⟨B, d, rfl, hy⟩ := hv
   exact sa _ _ A c B d W' hx hy))
 have H4 : Hid (∀ W, Below w.heap.size w W → Calls prog 100 #[cM e eA ec, cM e' eA' ec'] W fun r w' => r = .returned (.bool (decide (e = e'))) ∧ Below W.heap.size W w') := hid (fun W hW => nT e e' eA ec eA' ec' W (ha.ex.below hW) (hb.ex.below hW))
 obtain ⟨q1, hq1⟩ := nm_ (decide (ki = ki'))
 obtain ⟨q2, hq2⟩ := nm_ (decide (us = us'))
 obtain ⟨q3, hq3⟩ := nm_ (decide (al = al'))
 obtain ⟨q4, hq4⟩ := nm_ (decide (e = e'))
 rw [hq1] at H1
 rw [hq2] at H2
 rw [hq3] at H3
 rw [hq4] at H4
 obtain ⟨R, hR⟩ := nm_ (decide ((⟨k, ki, us, nm, al, e⟩ : Nd) = ⟨k', ki', us', nm', al', e'⟩))
 rw [hR]
 have hRR : R = (k == k' && (decide (nm = nm') && (q1 && (q2 && (q3 && q4))))) := by
  rw [← hR, ← hq1, ← hq2, ← hq3, ← hq4, Bool.eq_iff_iff]
  simp only [a_, decide_eq_true_eq, beq_iff_eq, Nd.mk.injEq]
  exact ⟨fun ⟨a, b, c, d, e, f⟩ => ⟨a, d, b, c, e, f⟩, fun ⟨a, d, b, c, e, f⟩ => ⟨a, b, c, d, e, f⟩⟩
 obtain ⟨w0, hw0, hal, hx, hy⟩ := fA (w := w) (cs := #[.int .i64 k, .slice kA ki.length kc, .slice uA us.length uc, .string nm, .slice gA al.length gc, .int .i64 e.op, .int .i64 e.n, .string e.name, .slice eA e.kids.length ec])
  (ds := #[.int .i64 k', .slice kA' ki'.length kc', .slice uA' us'.length uc', .string nm', .slice gA' al'.length gc', .int .i64 e'.op, .int .i64 e'.n, .string e'.name, .slice eA' e'.kids.length ec']) (t := 43) (u := 43)
 have HX := hid hx
 have HY := hid hy
 obtain ⟨⟨x0, x1, x2, x3, x4⟩, x5, x6, x7, x8⟩ := nX hx
 obtain ⟨⟨y0, y1, y2, y3, y4⟩, y5, y6, y7, y8⟩ := nX hy
 have hlx := ab hx
 have hly := ab hy
 have HW0 := hid hw0
 have HAL := hid hal
 have HR := hid hRR
 clear ha hb hx hy hw0 hal hq1 hq2 hq3 hq4 hR hRR
 have key : (k == k') = false ∨ k = k' ∧ ((nm.data.toList == nm'.data.toList) = false ∧ (nm.toList == nm'.toList) = false ∧ nm ≠ nm' ∨ nm = nm') := by
  by_cases e1 : k = k'
  ·refine .inr ⟨e1, ?_⟩
   by_cases e2 : nm = nm'
   ·exact .inr e2
   ·exact .inl ⟨(fH e2).1, (fH e2).2, e2⟩
  ·exact .inl (aO e1)
 rcases key with t1 | ⟨rfl, ⟨t1, t3, t4⟩ | rfl⟩
 ·go_enter func71, ntmps71
  go_wp2_with fail
  rw [HW0.out]
  go_ret
  exact ⟨by rw [HR.out, t1]; rfl, HAL.out⟩
 ·have HQ : Hid (R = false) := hid (by rw [HR.out, V_ t4, Bool.false_and, Bool.and_false])
  clear t4
  go_enter func71, ntmps71
  go_wp2_with fail
  rw [HW0.out]
  go_ret
  exact ⟨by rw [HQ.out]; rfl, HAL.out⟩
 ·have HQ : Hid (R = (q1 && (q2 && (q3 && q4)))) := hid (by rw [HR.out, W_ rfl, beq_self_eq_true, Bool.true_and, Bool.true_and])
  go_enter func71, ntmps71
  go_wp2_with fail
  rw [HW0.out]
  refine (H1.out _ HAL.out).mono ?_
  rintro r w1 ⟨rfl, hb1⟩
  have HB1 := hk_ (HAL.out.trans (hb1.mono HAL.out.size)) ((hb1.block _ hlx).trans HX.out) ((hb1.block _ hly).trans HY.out)
  clear hb1 x0 x1 x2 x3 x4 x5 x6 x7 x8 y0 y1 y2 y3 y4 y5 y6 y7 y8 hlx hly
  cases q1
  ·go_wp2_with fail
   go_ret
   exact ⟨by rw [HQ.out]; rfl, HB1.out.1⟩
  obtain ⟨⟨_, _, x2, _, _⟩, _⟩ := nX HB1.out.2.1
  obtain ⟨⟨_, _, y2, _, _⟩, _⟩ := nX HB1.out.2.2
  have hlx := ab HB1.out.2.1
  have hly := ab HB1.out.2.2
  go_wp2_with fail
  refine (H2.out _ HB1.out.1).mono ?_
  rintro r w2 ⟨rfl, hb2⟩
  have HB2 := hk_ (HB1.out.1.trans (hb2.mono HB1.out.1.size)) ((hb2.block _ hlx).trans HB1.out.2.1) ((hb2.block _ hly).trans HB1.out.2.2)
  clear hb2 x2 y2 hlx hly
  cases q2
  ·go_wp2_with fail
   go_ret
   exact ⟨by rw [HQ.out]; rfl, HB2.out.1⟩
  obtain ⟨⟨_, _, _, _, x4⟩, _⟩ := nX HB2.out.2.1
  obtain ⟨⟨_, _, _, _, y4⟩, _⟩ := nX HB2.out.2.2
  have hlx := ab HB2.out.2.1
  have hly := ab HB2.out.2.2
  go_wp2_with fail
  refine (H3.out _ HB2.out.1).mono ?_
  rintro r w3 ⟨rfl, hb3⟩
  have HB3 := hk_ (HB2.out.1.trans (hb3.mono HB2.out.1.size)) ((hb3.block _ hlx).trans HB2.out.2.1) ((hb3.block _ hly).trans HB2.out.2.2)
  clear hb3 x4 y4 hlx hly
  cases q3
  ·go_wp2_with fail
   go_ret
   exact ⟨by rw [HQ.out]; rfl, HB3.out.1⟩
  obtain ⟨_, x5, x6, x7, x8⟩ := nX HB3.out.2.1
  obtain ⟨_, y5, y6, y7, y8⟩ := nX HB3.out.2.2
  have hlx := ab HB3.out.2.1
  have hly := ab HB3.out.2.2
  go_wp2_with fail
  refine (H4.out _ HB3.out.1).mono ?_
  rintro r w4 ⟨rfl, hb4⟩
  have HB4 := hid (HB3.out.1.trans (hb4.mono HB3.out.1.size))
  clear hb4 x5 x6 x7 x8 y5 y6 y7 y8 hlx hly
  go_wp2_with fail
  go_ret
  exact ⟨by rw [HQ.out]; rfl, HB4.out⟩
structure iq (P : Nat → Prop) (w : World) (r : lp) (pA : Option Addr) (pc : Nat) (nA : Option Addr) (nc : Nat) : Prop where
 prms : aw iV P w pA pc r.params
 nds : aw nM P w nA nc r.nodes
theorem iq.below {P w w' r pA nA pc nc} (h : iq P w r pA pc nA nc) (hs : Below w.heap.size w w') : iq P w' r pA pc nA nc := ⟨h.prms.below hs, h.nds.below hs⟩
abbrev m5 (r : lp) (pA : Option Addr) (pc : Nat) (nA : Option Addr) (nc : Nat) : Value := .agg #[.string r.name, .slice pA r.params.length pc, .slice nA r.nodes.length nc]
open Classical in
theorem u5 (x y : lp) (pA : Option Addr) (pc : Nat) (nA : Option Addr) (nc : Nat) (pA' : Option Addr) (pc' : Nat) (nA' : Option Addr) (nc' : Nat) (w : World) (ha : iq P w x pA pc nA nc) (hb : iq Q w y pA' pc' nA' nc') :
  Calls prog 42 #[m5 x pA pc nA nc, m5 y pA' pc' nA' nc'] w fun r w' => r = .returned (.bool (decide (x = y))) ∧ Below w.heap.size w w' := by
 obtain ⟨nm, ps, ns⟩ := x
 obtain ⟨nm', ps', ns'⟩ := y
 have H1 : Hid (∀ W, Below w.heap.size w W → Calls prog 69 #[.slice pA ps.length pc, .slice pA' ps'.length pc'] W fun r w' => r = .returned (.bool (decide (ps = ps'))) ∧ Below W.heap.size W w') := hid (fun W hW => zd (ha.prms.below hW) (hb.prms.below hW))
 have H2 : Hid (∀ W, Below w.heap.size w W → Calls prog 70 #[.slice nA ns.length nc, .slice nA' ns'.length nc', .func (.func 71) #[] #[]] W fun r w' => r = .returned (.bool (decide (ns = ns'))) ∧ Below W.heap.size W w') :=
  hid (fun W hW => zg (ha.nds.below hW) (hb.nds.below hW) uZ (fun i hi hj u v W' hW' hu hv => by
   obtain ⟨a1, a2, a3, a4, a5, a6, a7, a8, rfl, hx⟩ := hu
   obtain ⟨b1, b2, b3, b4, b5, b6, b7, b8, rfl, hy⟩ := hv
   exact u4 _ _ _ _ _ _ _ _ _ _ _ _ _ _ _ _ _ _ W' hx hy))
 obtain ⟨q1, hq1⟩ := nm_ (decide (ps = ps'))
 obtain ⟨q2, hq2⟩ := nm_ (decide (ns = ns'))
 rw [hq1] at H1
 rw [hq2] at H2
 obtain ⟨R, hR⟩ := nm_ (decide ((⟨nm, ps, ns⟩ : lp) = ⟨nm', ps', ns'⟩))
 rw [hR]
 have hRR : R = (decide (nm = nm') && (q1 && q2)) := by
  rw [← hR, ← hq1, ← hq2, Bool.eq_iff_iff]
  simp only [a_, decide_eq_true_eq, lp.mk.injEq]
 obtain ⟨w0, hw0, hal, hx, hy⟩ := fA (w := w) (cs := #[.string nm, .slice pA ps.length pc, .slice nA ns.length nc]) (ds := #[.string nm', .slice pA' ps'.length pc', .slice nA' ns'.length nc']) (t := 26) (u := 26)
 have HX := hid hx
 have HY := hid hy
 obtain ⟨⟨x0, x1, x2⟩, _⟩ := bx hx
 obtain ⟨⟨y0, y1, y2⟩, _⟩ := bx hy
 have hlx := ab hx
 have hly := ab hy
 have HW0 := hid hw0
 have HAL := hid hal
 have HR := hid hRR
 clear ha hb hx hy hw0 hal hq1 hq2 hR hRR
 by_cases e1 : nm = nm'
 ·subst e1
  have HQ : Hid (R = (q1 && q2)) := hid (by rw [HR.out, W_ rfl, Bool.true_and])
  go_enter func42, ntmps42
  go_wp2_with fail
  rw [HW0.out]
  refine (H1.out _ HAL.out).mono ?_
  rintro r w1 ⟨rfl, hb1⟩
  have HB1 := hk_ (HAL.out.trans (hb1.mono HAL.out.size)) ((hb1.block _ hlx).trans HX.out) ((hb1.block _ hly).trans HY.out)
  clear hb1 x0 x1 x2 y0 y1 y2 hlx hly
  cases q1
  ·go_wp2_with fail
   go_ret
   exact ⟨by rw [HQ.out]; rfl, HB1.out.1⟩
  obtain ⟨⟨_, _, x2⟩, _⟩ := bx HB1.out.2.1
  obtain ⟨⟨_, _, y2⟩, _⟩ := bx HB1.out.2.2
  have hlx := ab HB1.out.2.1
  have hly := ab HB1.out.2.2
  go_wp2_with fail
  refine (H2.out _ HB1.out.1).mono ?_
  rintro r w2 ⟨rfl, hb2⟩
  have HB2 := hid (HB1.out.1.trans (hb2.mono HB1.out.1.size))
  clear hb2 x2 y2 hlx hly
  go_wp2_with fail
  go_ret
  exact ⟨by rw [HQ.out]; rfl, HB2.out⟩
 ·have HQ : Hid (R = false) := hid (by rw [HR.out, V_ e1, Bool.false_and])
  obtain ⟨t1, t3⟩ := fH e1
  clear e1
  go_enter func42, ntmps42
  go_wp2_with fail
  rw [HW0.out]
  go_ret
  exact ⟨by rw [HQ.out]; rfl, HAL.out⟩
end Go.Proofs.YtgcfjkfipkfijaaGreatDoor
namespace Go.Proofs.YtgcfjkfipkfijaaGreatDoor
open Go Go.RowKit Go.Lib Tryz
theorem nY {r} (hr : m4 r) : ((cb r).1.length : Int) ≤ 1099511627778 := by
 unfold cb
 split
 ·simp
 ·rename_i hc
  unfold qi
  have h1 := iL r.params hr.prm
  have h2 : (du r).length ≤ 65544 := by
   unfold du
   simp only [O_, bm, P_, b_]
   have := hr.name
   omega
  obtain ⟨sB, hsB⟩ := nm_ (⟨du r ++ bs r.params ++ [123, 10], r.nodes.length, false⟩ : WS)
  have hBl : sB.left = r.nodes.length := by rw [← hsB]
  have hBo : sB.out.length ≤ 400000 := by
   rw [← hsB]
   simp only [O_, P_, b_]
   omega
  have hBp : pot sB ≤ 1099511627776 := by
   unfold pot xh
   rw [hBl]
   split <;> omega
  rw [hsB]
  have hkn := jZ hr.nd 24 (-101) 0 [32, 32] sB (by decide) (by decide) (by omega)
  have h3 := jo (bU r.nodes (aS r.nodes 24) 0 [32, 32] sB)
  have h4 := hkn.pot
  unfold bG
  simp only [O_, P_, b_]
  omega
open Classical in
theorem ir {P : Nat → Prop} (r : lp) (pA : Option Addr) (pc : Nat) (nA : Option Addr) (nc : Nat) (w : World) (h : iq P w r pA pc nA nc) (hr : m4 r) (hT : bq w) :
  Calls prog 13 #[m5 r pA pc nA nc] w fun e w' => e = .returned (.bool (kD r)) ∧ Below w.heap.size w w' := by
 obtain ⟨w1, hw1, hb1, _⟩ := alo_ w (.cells #[.string r.name, .slice pA r.params.length pc, .slice nA r.nodes.length nc] 26)
 have hx1 : w1.heap[w.heap.size]? = some (.cells #[.string r.name, .slice pA r.params.length pc, .slice nA r.nodes.length nc] 26 (0, 0)) := hw1 ▸ I_ _ _
 have HTX := hid (nR r pA pc nA nc w1 (h.below hb1).prms (h.below hb1).nds hr (hT.below hb1))
 obtain ⟨ANS, hANS⟩ := nm_ (kD r)
 rw [hANS]
 unfold kD at hANS
 obtain ⟨⟨t, ok⟩, ht⟩ : ∃ x, cb r = x := ⟨_, rfl⟩
 rw [ht] at HTX hANS
 obtain ⟨⟨x, e, a⟩, hx⟩ : ∃ x, cB (str t) = x := ⟨_, rfl⟩
 simp only [hx] at hANS HTX
 have H := hid (⟨h, hT, hb1, hx, hANS, hx1⟩ : _ ∧ _ ∧ _ ∧ _ ∧ _ ∧ _)
 have HW1 := hid hw1
 obtain ⟨⟨x0, x1, x2⟩, _⟩ := bx hx1
 have hlx := ab hx1
 have HL := hid (show (str t).size ≤ 9223372036854775806 from by
  have h1 := nY hr
  rw [ht] at h1
  simp only at h1
  rw [aY]
  omega)
 clear h hr hT hb1 hx hANS hx1 hw1 ht
 go_enter func13, ntmps13
 go_wp2_with fail
 rw [HW1.out]
 refine HTX.out.mono ?_
 rintro e1 w2 ⟨rfl, hb2⟩
 have H2 := hj_ (H.out.2.2.1.trans (hb2.mono H.out.2.2.1.size)) ((hb2.block _ hlx).trans H.out.2.2.2.2.2)
 clear hb2 x0 x1 x2 hlx
 cases ok
 ·have HQ : Hid (ANS = false) := hid (by rw [← H.out.2.2.2.2.1]; rfl)
  go_wp2_with fail
  go_ret
  exact ⟨by rw [HQ.out]; rfl, H2.out.1⟩
 ·have hA := H.out.2.2.2.2.1
  rw [Bool.true_and] at hA
  have HA := hid hA
  have HPA := hid (gJ (str t) w2 (H.out.2.1.below H2.out.1) HL.out)
  rw [H.out.2.2.2.1] at HPA
  clear hA
  go_wp2_with fail
  refine HPA.out.mono ?_
  rintro e1 w3 ⟨pA', pc', nA', nc', rfl, hp3, hn3, hb3⟩
  simp only at hp3 hn3
  obtain ⟨w4, hw4, hb4, _⟩ := alo_ w3 (.cells #[.string x.name, .slice pA' x.params.length pc', .slice nA' x.nodes.length nc'] 26)
  have hy4 : w4.heap[w3.heap.size]? = some (.cells #[.string x.name, .slice pA' x.params.length pc', .slice nA' x.nodes.length nc'] 26 (0, 0)) := hw4 ▸ I_ _ _
  have hb34 := H2.out.1.trans ((hb3.trans (hb4.mono hb3.size)).mono H2.out.1.size)
  have hx4 := ((hb3.trans (hb4.mono hb3.size)).block _ (ab H2.out.2)).trans H2.out.2
  have HS := hid (u5 x r pA' pc' nA' nc' pA pc nA nc w4 (iq.below ⟨hp3, hn3⟩ hb4) (H.out.1.below hb34))
  have HB4 := hid hb34
  have HW4 := hid hw4
  obtain ⟨⟨x0, x1, x2⟩, _⟩ := bx hx4
  obtain ⟨⟨y0, y1, y2⟩, _⟩ := bx hy4
  have hlx := ab hx4
  have hly := ab hy4
  clear hp3 hn3 hb3 hb4 hw4 hy4 hx4 hb34
  by_cases he : e = 0
  ·subst he
   have HQ : Hid (ANS = decide (x = r)) := hid (by rw [← HA.out]; rfl)
   clear HA
   go_upto_region 5 with fail
   rw [HW4.out]
   go_wp2_with fail
   refine HS.out.mono ?_
   rintro e1 w5 ⟨rfl, hb5⟩
   have HB5 := tm_ HB4 hb5
   clear hb5
   go_wp2_with fail
   go_ret
   exact ⟨by rw [HQ.out]; rfl, HB5.out⟩
  ·have t1 := aO he
   have HQ : Hid (ANS = false) := hid (by rw [← HA.out, t1]; rfl)
   clear he
   go_wp2_with fail
   rw [HW4.out]
   go_ret
   exact ⟨by rw [HQ.out]; rfl, HB4.out⟩
end Go.Proofs.YtgcfjkfipkfijaaGreatDoor
namespace Go.Proofs.YtgcfjkfipkfijaaGreatDoor
open Go Go.RowKit Go.Lib Tryz
theorem mr {P} (r pA pc nA nc w) (h : iq P w r pA pc nA nc) (hr : m4 r) (hT : bq w) :
  Calls prog 14 #[m5 r pA pc nA nc] w fun e w' => e = .returned (.string (gG r)) ∧ Below w.heap.size w w' := by
 obtain ⟨w1, hw1, hb1, _⟩ := alo_ w (.cells #[.string r.name, .slice pA r.params.length pc, .slice nA r.nodes.length nc] 26)
 have hx1 : w1.heap[w.heap.size]? = some (.cells #[.string r.name, .slice pA r.params.length pc, .slice nA r.nodes.length nc] 26 (0, 0)) := hw1 ▸ I_ _ _
 have HMY := hid (ir r pA pc nA nc w1 (h.below hb1) hr (hT.below hb1))
 have HTX := hid (fun W (hW : Below w.heap.size w W) => nR r pA pc nA nc W (h.below hW).prms (h.below hW).nds hr (hT.below hW))
 obtain ⟨q, hq⟩ := nm_ (kD r)
 obtain ⟨ANS, hANS⟩ := nm_ (gG r)
 rw [hANS]
 unfold gG at hANS
 rw [hq] at HMY hANS
 have H := hk_ hb1 hx1 hANS
 have HW1 := hid hw1
 obtain ⟨⟨x0, x1, x2⟩, _⟩ := bx hx1
 have hlx := ab hx1
 clear h hr hT hb1 hANS hx1 hw1 hq
 go_enter func14, ntmps14
 go_wp2_with fail
 rw [HW1.out]
 refine HMY.out.mono ?_
 rintro e1 w2 ⟨rfl, hb2⟩
 have H2 := hj_ (H.out.1.trans (hb2.mono H.out.1.size)) ((hb2.block _ hlx).trans H.out.2.1)
 clear hb2 x0 x1 x2 hlx
 cases q
 ·have HQ : Hid (ANS = ⟨#[]⟩) := hid (by rw [← H.out.2.2]; rfl)
  go_wp2_with fail
  go_ret
  exact ⟨by rw [HQ.out]; rfl, H2.out.1⟩
 ·have HQ : Hid (ANS = str (cb r).1) := hid (by rw [← H.out.2.2]; rfl)
  obtain ⟨⟨x0, x1, x2⟩, _⟩ := bx H2.out.2
  have hlx := ab H2.out.2
  go_wp2_with fail
  refine (HTX.out _ H2.out.1).mono ?_
  rintro e1 w3 ⟨rfl, hb3⟩
  have H3 := hid (H2.out.1.trans (hb3.mono H2.out.1.size))
  clear hb3 x0 x1 x2 hlx
  go_wp2_with fail
  go_ret
  exact ⟨by rw [HQ.out]; rfl, H3.out⟩
theorem zi {P w k s t} (hk : ¬ P k) (h : w.heap[k]? = some (.cells #[.string s] t (0, 0))) : aw ax.str P w (some ⟨k, 0, none⟩) 1 [s] :=
 ⟨H_ _, fun M hM => ⟨by show 1 ≤ _; decide, fun _ => ⟨⟨k, 0, none⟩, rfl, fun hc => hk (hM _ hc), ab h, fun i hi => by
  match i, hi with
  | 0, _ => exact ⟨[.string s], rfl, fun j u hu => by
    match j, hu with
    | 0, hu => exact (aa h 0).trans hu⟩⟩⟩⟩
structure u6 (w : World) (wr : World) (B : Option Addr) (b : Nat) (os : List ByteArray) : Prop where
 row : aD ax.str 9 w.heap.size (fun k => k < w.heap.size) wr B os.length b (os.map sE)
 below : Below w.heap.size w wr
theorem u6.step {w wr w' B b os} (h : u6 w wr B b os) (hb : Below wr.heap.size wr w') : u6 w w' B b os := ⟨h.row.below hb, h.below.trans (hb.mono h.below.size)⟩
theorem u6.post {w wr B b os} (h : u6 w wr B b os) : aw ax.str (fun k => k < w.heap.size) wr B b os := by
 have h1 := h.row.out (fun _ h => h) (fun q hq => by obtain ⟨p, _, rfl⟩ := List.mem_map.1 hq; rfl)
 rwa [List.map_map, show ((fun q : ByteArray × List Value => q.1) ∘ sE) = id from rfl, List.map_id] at h1
theorem u6.push {w wr w6 B b g cap os s} (h : u6 w wr B b os) (hG : aD ax.str 9 w.heap.size (fun k => k < w.heap.size) w6 (some ⟨g, 0, none⟩) (os.length + 1) cap (os.map sE ++ [(s, [.string s])])) (hS : Same (Value.slice B os.length b).ownBlock.toList wr w6) : u6 w w6 (some ⟨g, 0, none⟩) cap (os ++ [s]) := by
 have hl : (os ++ [s]).length = os.length + 1 := by simp
 refine ⟨by rw [hl, f_]; exact hG, ?_⟩
 exact ((Same.of_below (M := []) h.below).trans hS (fun x hx => .inr (h.row.blk x (by simpa using hx)).1)).below
theorem u6.next {w wr w6 B V b g cap v N os ls s ob} (h : u6 w wr B b os) (hrow : aw ax.str (fun k => (Value.slice B os.length b).ownBlock = some k) wr V v ls) (hne : ∀ k, (Value.slice B os.length b).ownBlock = some k → k ≠ N) (hbox : wr.heap[N]? = some ob) (hG : aD ax.str 9 w.heap.size (fun k => k < w.heap.size) w6 (some ⟨g, 0, none⟩) (os.length + 1) cap (os.map sE ++ [(s, [.string s])])) (hS : Same (Value.slice B os.length b).ownBlock.toList wr w6) (hg : (Value.slice B os.length b).ownBlock = some g ∨ wr.heap.size < g) :
  u6 w w6 (some ⟨g, 0, none⟩) cap (os ++ [s]) ∧ aw ax.str (fun k => (Value.slice (some ⟨g, 0, none⟩) (os ++ [s]).length cap).ownBlock = some k) w6 V v ls ∧ (∀ k, (Value.slice (some ⟨g, 0, none⟩) (os ++ [s]).length cap).ownBlock = some k → k ≠ N) ∧ w6.heap[N]? = some ob := by
 have hN := ab hbox
 have hg' : ∀ k, (Value.slice (some ⟨g, 0, none⟩) (os ++ [s]).length cap).ownBlock = some k → k = g := fun k hk => by have : some g = some k := hk; exact (e_ this).symm
 refine ⟨h.push hG hS, ?_, fun k hk => ?_, hS.heap (fun hc => hne N (by simpa using hc) rfl) hbox⟩
 ·have h1 := (hrow.more (Q := fun k => (Value.slice B os.length b).ownBlock = some k ∨ k = g) (fun k hk => hk.elim .inl (fun e => by
   subst e
   exact hg.elim .inl (fun h => .inr (Nat.le_of_lt h))))).keep hS (fun k hk => .inl (by simpa using hk))
  exact h1.more (fun k hk => .inl (.inr (hg' k hk)))
 ·obtain rfl := hg' k hk
  exact hg.elim (hne k) (fun h => by omega)
def nZ (l : List ByteArray) (w : World) (e : Ending) (w' : World) : Prop := ∃ B b, e = .returned (.slice B l.length b) ∧ aw ax.str (fun k => k < w.heap.size) w' B b l ∧ Below w.heap.size w w'
theorem u7 {P} (r pA pc nA nc kind w) (h : iq P w r pA pc nA nc) (hr : m4 r) (hT : bq w) :
  Calls prog 45 #[m5 r pA pc nA nc, .int .i64 kind] w (nZ (kE r kind) w) := by
 obtain ⟨w1, hw1, hb1, _⟩ := alo_ w (.cells #[.string r.name, .slice pA r.params.length pc, .slice nA r.nodes.length nc] 26)
 have hx1 : w1.heap[w.heap.size]? = some (.cells #[.string r.name, .slice pA r.params.length pc, .slice nA r.nodes.length nc] 26 (0, 0)) := hw1 ▸ I_ _ _
 have HMY := hid (ir r pA pc nA nc w1 (h.below hb1) hr (hT.below hb1))
 obtain ⟨q, hq⟩ := nm_ (kD r)
 obtain ⟨ANS, hANS⟩ := nm_ (kE r kind)
 rw [hANS]
 unfold kE at hANS
 rw [hq] at HMY hANS
 have hnm := (h.nds.2 [] (by simp)).1
 have hnc := h.nds.1
 have h24 : q = true → r.nodes.length ≤ 24 := fun hq' => by
  have h1 := ((j1 r).1 (hq.trans hq')).1
  unfold cb at h1
  split at h1
  ·exact absurd h1 (by decide)
  ·omega
 have H := hid (⟨hb1, hx1, hANS, h.nds.more (Q := fun k => w.heap.size ≤ k) (fun k hk => .inr hk), hr, h24⟩ : _ ∧ _ ∧ _ ∧ _ ∧ _ ∧ _)
 have HW1 := hid hw1
 obtain ⟨⟨x0, x1, x2⟩, _⟩ := bx hx1
 have hlx := ab hx1
 clear h hr hT hb1 hANS hx1 hw1 hq h24
 go_enter func45, ntmps45
 go_wp2_with fail
 rw [HW1.out]
 refine HMY.out.mono ?_
 rintro e1 w2 ⟨rfl, hb2⟩
 have H2 := hj_ (H.out.1.trans (hb2.mono H.out.1.size)) ((hb2.block _ hlx).trans H.out.2.1)
 clear hb2 x0 x1 x2 hlx
 cases q
 ·have HQ : Hid (ANS = []) := hid (by rw [← H.out.2.2.1]; rfl)
  go_wp2_with fail
  refine L_ (v := .slice none 0 0) (by simp [results, results45, go_sem, *]) rfl ?_
  rw [HQ.out]
  exact ⟨none, 0, rfl, aw.nil _ _ _ _ _, H2.out.1⟩
 have HQ : Hid ((r.nodes.flatMap (kX kind)).foldl uU [] = ANS ∧ r.nodes.length ≤ 24) := hid ⟨by rw [← H.out.2.2.1]; rfl, H.out.2.2.2.2.2 rfl⟩
 obtain ⟨⟨x0, x1, x2⟩, _⟩ := bx H2.out.2
 have hlx := ab H2.out.2
 go_wp2_with fail
 go_loopg [5, 17] (r.nodes.length + 1) (fun q s5 s17 wr => ∃ (i : Nat) (B : Option Addr) (b : Nat) (os : List ByteArray), s5 = .slice B os.length b ∧ s17 = .int .i64 (i : Nat) ∧ i ≤ r.nodes.length ∧ r.nodes.length - i < q ∧ ((r.nodes.drop i).flatMap (kX kind)).foldl uU os = ANS ∧ os.length ≤ i * 65536 ∧ u6 w wr B b os)
 case atStart => exact ⟨0, none, 0, [], rfl, rfl, h_ _, by omega, HQ.out.1, h_ _, ⟨aD.nil _ _ _ _ _, H2.out.1⟩⟩
 case round =>
  obtain ⟨i, B, b, os, rfl, rfl, hin, hiq, hans, hol, hW⟩ := hrel
  obtain ⟨gk, rfl⟩ := pk_ gk 1 (by omega)
  clear x0 x1 x2 hlx
  by_cases hlt : i < r.nodes.length
  ·have hR := H.out.2.2.2.1.below hW.below
   obtain ⟨ad, rfl⟩ := dX hR i hlt
   obtain ⟨kA, kc, uA, uc, gA, gc, eA, ec, ⟨c0, c1, c2, c3, c4, c5, c6, c7, c8⟩, _, hur, _, _, hnl⟩ := da hR i hlt
   have hN := H.out.2.2.2.2.1.nd _ (g_ hlt)
   obtain ⟨x, hx⟩ := nm_ (r.nodes[i])
   have hdr : (r.nodes.drop i).flatMap (kX kind) = kX kind x ++ (r.nodes.drop (i + 1)).flatMap (kX kind) := by rw [List.drop_eq_getElem_cons hlt, i_, hx]
   rw [hdr, List.foldl_append] at hans
   rw [hx] at c0 c1 c2 c3 c4 c5 c6 c7 c8 hur hN
   have hul := hN.units
   have hxu := hur.1
   have hxm := (hur.2 [] (by simp)).1
   obtain ⟨ls, hls⟩ := nm_ (if x.kind = 3 then [x.name] else x.units)
   have hnm : kX kind x = if x.kind = kind then ls else [] := by unfold kX; rw [hls]
   rw [hnm] at hans
   have hll : ls.length ≤ 65536 := by
    rw [← hls]
    split
    ·simp
    ·exact hul
   obtain ⟨w3, hw3, hb3, _⟩ := alo_ wr (.cells #[.int .i64 x.kind, .slice kA x.kids.length kc, .slice uA x.units.length uc, .string x.name, .slice gA x.args.length gc, .int .i64 x.e.op, .int .i64 x.e.n, .string x.e.name, .slice eA x.e.kids.length ec] 43)
   have hy3 : w3.heap[wr.heap.size]? = some (.cells #[.int .i64 x.kind, .slice kA x.kids.length kc, .slice uA x.units.length uc, .string x.name, .slice gA x.args.length gc, .int .i64 x.e.op, .int .i64 x.e.n, .string x.e.name, .slice eA x.e.kids.length ec] 43 (0, 0)) := hw3 ▸ I_ _ _
   have HW3 := hk_ (hW.step hb3) (hur.below hb3) hW.row.blk
   have HA := hl_ hans hls hol hll
   have HEQ := hid hw3
   obtain ⟨⟨y0, _, y2, y3, _⟩, _⟩ := nX hy3
   obtain ⟨N, hNN⟩ := nm_ wr.heap.size
   have hly := ab hy3
   rw [hNN] at y0 y2 y3 hly hy3
   have HY3 := hj_ hy3 hNN
   clear hans hls hol hll hW hb3 hy3 hw3 hnm hdr hx hN hur hR
   have hz0 : (0 : Int) ≤ i := by omega
   go_upto_region 8 with fail
   rw [HEQ.out]
   obtain ⟨t, ht⟩ := nm_ (x.kind == 3)
   have HT := hid ht
   go_upto_if 25 with fail
   go_cut [8] (fun s8 wx => ∃ (V : Option Addr) (v : Nat), s8 = .slice V ls.length v ∧ aw ax.str (fun k => (Value.slice B os.length b).ownBlock = some k) wx V v ls ∧ Below w3.heap.size w3 wx)
   case first =>
    have hrow := HW3.out.2.1
    have hbk := HW3.out.2.2
    cases t
    ·have hls : x.units = ls := by rw [← HA.out.2.1, K_ (by have := HT.out; simpa using this)]
     have HU := hj_ hls (hrow.more (Q := fun k => (Value.slice B os.length b).ownBlock = some k) (fun k hk => .inl (hbk k hk).1))
     clear hrow hbk hls
     go_wp2_with fail
     go_meet
     obtain ⟨h1, h2⟩ := HU.out
     subst h1
     exact ⟨uA, uc, rfl, h2, J_ _ _⟩
    ·have hls : [x.name] = ls := by rw [← HA.out.2.1, M_ (by have := HT.out; simpa using this)]
     have HU := hid (⟨hls, fun k hk => Nat.lt_trans (hbk k hk).2 (by have := hNN; omega)⟩ : [x.name] = ls ∧ ∀ k, (Value.slice B os.length b).ownBlock = some k → k < w3.heap.size)
     clear hrow hbk hls
     go_wp2_with fail
     go_meet
     obtain ⟨h1, h2⟩ := HU.out
     subst h1
     exact ⟨some ⟨w3.heap.size, 0, none⟩, 1, rfl, zi (fun hc => by have := h2 _ hc; omega) (I_ _ _), (J_ _ _).alloc le_ _⟩
   case rest =>
    obtain ⟨V, v, rfl, hrow, hb4⟩ := hcut
    have hW4 := HW3.out.1.step hb4
    have hvm := (hrow.2 [] (by simp)).1
    have hvc := hrow.1
    obtain ⟨OS, hOS⟩ := nm_ ((if x.kind = kind then ls else []).foldl uU os)
    have hA := HA.out.1
    rw [hOS] at hA
    have HB := hid (⟨hW4, hrow, hOS, hA, fun k hk => by rw [← HY3.out.2]; exact Nat.ne_of_lt (HW3.out.2.2 k hk).2, (hb4.block _ hly).trans HY3.out.1⟩ : _ ∧ _ ∧ _ ∧ _ ∧ (∀ k, (Value.slice B os.length b).ownBlock = some k → k ≠ N) ∧ _)
    have hol := HA.out.2.2.1
    have hll := HA.out.2.2.2
    clear hW4 hrow hOS hA hb4 hly y0 y2 y3 ht HT
    go_wp2_with fail
    go_loopg [5, 31] (ls.length + 1) (fun q s5 s31 wz => ∃ (j : Nat) (B' : Option Addr) (b' : Nat) (os' : List ByteArray), s5 = .slice B' os'.length b' ∧ s31 = .int .i64 (j : Nat) ∧ j ≤ ls.length ∧ ls.length - j < q ∧ (if x.kind = kind then ls.drop j else []).foldl uU os' = OS ∧ os'.length ≤ i * 65536 + j ∧ u6 w wz B' b' os' ∧ aw ax.str (fun k => (Value.slice B' os'.length b').ownBlock = some k) wz V v ls ∧ (∀ k, (Value.slice B' os'.length b').ownBlock = some k → k ≠ N) ∧
     wz.heap[N]? = some (.cells #[.int .i64 x.kind, .slice kA x.kids.length kc, .slice uA x.units.length uc, .string x.name, .slice gA x.args.length gc, .int .i64 x.e.op, .int .i64 x.e.n, .string x.e.name, .slice eA x.e.kids.length ec] 43 (0, 0)))
    case atStart => exact ⟨0, B, b, os, rfl, rfl, h_ _, by omega, HB.out.2.2.1, d_ hol (Nat.le_add_right _ _), HB.out.1, HB.out.2.1, HB.out.2.2.2.2.1, HB.out.2.2.2.2.2⟩
    case round =>
     obtain ⟨j, B', b', os', rfl, rfl, hjl, hjq, hos, hol', hW', hrow', hne', hbox⟩ := hrel
     obtain ⟨gj, rfl⟩ := pk_ gk 1 (by omega)
     have hz0 : (0 : Int) ≤ j := by omega
     by_cases hjlt : j < ls.length
     ·obtain ⟨vd, rfl, c0, hvl⟩ := eX hrow' j hjlt
      obtain ⟨⟨y0, _, _, _, _⟩, _⟩ := nX hbox
      have hly := ab hbox
      obtain ⟨u, hu⟩ := nm_ (ls[j])
      have hdr : ls.drop j = u :: ls.drop (j + 1) := by rw [List.drop_eq_getElem_cons hjlt, hu]
      rw [hu] at c0
      rw [hdr] at hos
      have HR := hm_ hos hW' hrow' hne' hbox
      have hjz : (j : Int) < ls.length := by omega
      clear hos hW' hrow' hne' hbox hdr hu
      by_cases hk : x.kind = kind
      ·have hkb : (x.kind == kind) = true := D_ hk
       have hos := HR.out.1
       rw [M_ hk, List.foldl_cons] at hos
       have HC := hid (jD HR.out.2.1.row.strs b' u)
       unfold uU at hos
       have HK := hid hk
       clear hk
       cases hin : pd u os' with
       | true =>
        rw [hin] at HC hos
        rw [M_ rfl] at hos
        have HS := hid hos
        clear hos hin
        go_wp2_with fail
        refine HC.out.mono ?_
        rintro e w5 ⟨rfl, rfl⟩
        go_wp2_with fail
        go_roundg gj
        case measure => omega
        case rel => exact ⟨j + 1, B', b', os', rfl, by go_num, by omega, by omega, by rw [M_ HK.out]; exact HS.out, by omega, HR.out.2.1, HR.out.2.2.1, HR.out.2.2.2.1, HR.out.2.2.2.2⟩
       | false =>
        rw [hin] at HC hos
        rw [K_ (by decide)] at hos
        have HS := hid hos
        clear hos hin
        go_wp2_with fail
        refine HC.out.mono ?_
        rintro e w5 ⟨rfl, rfl⟩
        go_wp2_with (at_builtin; refine Hid.out ?_)
        refine hid ?_
        have hq24 := HQ.out.2
        refine dJ (by rfl) _ _ _ (by rfl) (.string ⟨#[]⟩) 16 underlying37 fY (by rfl) (by decide) (by rfl) HR.out.2.1.row u #[.string u] _ (by rfl) (by rfl) (by simp [Value.oneCell']) (Av.str _ _ _) (by unfold maxLen; omega) (by omega) HR.out.2.1.below.size ?_
        intro g2 cap w6 hG6 hS6 hg6
        have H6 := hid (HR.out.2.1.next HR.out.2.2.1 HR.out.2.2.2.1 HR.out.2.2.2.2 hG6 hS6 hg6.2.2)
        clear hG6 hS6 hg6 hq24
        go_wp2_with fail
        go_roundg gj
        case measure => omega
        case rel => exact ⟨j + 1, some ⟨g2, 0, none⟩, cap, os' ++ [u], by rw [O_]; rfl, by go_num, by omega, by omega, by rw [M_ HK.out]; exact HS.out, by rw [O_, P_, b_]; omega, H6.out.1, H6.out.2.1, H6.out.2.2.1, H6.out.2.2.2⟩
      ·have hkb : (x.kind == kind) = false := aO hk
       have hos := HR.out.1
       rw [K_ hk] at hos
       have HS := hj_ hos hk
       clear hos hk
       go_wp2_with fail
       go_roundg gj
       case measure => omega
       case rel => exact ⟨j + 1, B', b', os', rfl, by go_num, by omega, by omega, by rw [K_ HS.out.2]; exact HS.out.1, by omega, HR.out.2.1, HR.out.2.2.1, HR.out.2.2.2.1, HR.out.2.2.2.2⟩
     ·obtain rfl : j = ls.length := by omega
      have hE : os' = OS := by rw [List.drop_length, ite_self] at hos; exact hos
      subst hE
      have HE := hid hW'
      clear hos hW' hrow' hne' hbox
      go_wp2_with fail
      go_roundg gk
      case measure => omega
      case rel => exact ⟨i + 1, B', b', os', rfl, by go_num, by omega, by omega, HB.out.2.2.2.1, by omega, HE.out⟩
  ·obtain rfl : i = r.nodes.length := by omega
   rw [List.drop_length] at hans
   have hA : os = ANS := hans
   subst hA
   have HW := hid hW
   clear hans hW hol
   go_wp2_with fail
   refine L_ (v := .slice B os.length b) (by simp [results, results45, go_sem, *]) rfl ?_
   exact ⟨B, b, rfl, HW.out.post, HW.out.below⟩
end Go.Proofs.YtgcfjkfipkfijaaGreatDoor
namespace Go.Proofs.YtgcfjkfipkfijaaGreatDoor
open Go Go.RowKit Go.Lib Tryz
def sb : ByteArray := ⟨#[114, 101, 99, 105, 112, 101, 32, 114, 32, 112, 97, 114, 97, 109, 32, 113, 32, 58, 61, 32, 53, 32, 115, 99, 97, 108, 101, 100, 59, 32, 123, 32, 117, 110, 105, 116, 32, 117, 32, 123, 32, 112, 104, 97, 115, 101, 32, 104, 101, 97, 116, 40, 116, 32, 61, 32, 113, 32, 42, 32, 50, 41, 59, 32, 125, 32, 105, 102, 32, 113, 32, 62, 32, 51, 32, 123, 32, 112, 97, 114, 32, 123, 32, 125, 32, 125, 32, 125]⟩
def AW (s : List UInt8) : Ex := .mk 1 0 ⟨s.toArray⟩ []
def AX (n : Int) : Ex := .mk 0 n ⟨#[]⟩ []
def dB : lp := ⟨⟨#[114]⟩, [⟨⟨#[113]⟩, 5, true⟩], [⟨0, [1, 3], [], ⟨#[]⟩, [], dP⟩, ⟨2, [2], [⟨#[117]⟩], ⟨#[]⟩, [], dP⟩, ⟨3, [], [], ⟨#[104, 101, 97, 116]⟩, [⟨⟨#[116]⟩, .mk 6 0 ⟨#[]⟩ [AW [113], AX 2]⟩], dP⟩,
 ⟨4, [4, 6], [], ⟨#[]⟩, [], .mk 11 0 ⟨#[]⟩ [AW [113], AX 3]⟩, ⟨0, [5], [], ⟨#[]⟩, [], dP⟩, ⟨1, [], [], ⟨#[]⟩, [], dP⟩, ⟨0, [], [], ⟨#[]⟩, [], dP⟩]⟩
theorem sd : cB sb = (dB, 0, 0) := by kernel_rfl
theorem u9 : (cb dB).2 = true := by kernel_rfl
theorem u_ : (cb dB).1.length = 109 := by kernel_rfl
theorem se : cB (str (cb dB).1) = (dB, 0, 0) := by kernel_rfl
theorem jq : kD dB = true := by
 rw [j1, se]
 exact ⟨u9, rfl, rfl⟩
theorem qu : kE dB 2 = [⟨#[117]⟩] := by
 unfold kE
 rw [M_ jq]
 kernel_rfl
theorem lx {o n s} (h1 : gu o) (h2 : gu n) (h3 : s.size ≤ 140737488355328) : ch (.mk o n s []) := .mk h1 h2 h3 (fun k hk => by simp at hk)
theorem tI {o a b} (h1 : gu o) (ha : ch a) (hb : ch b) : ch (.mk o 0 ⟨#[]⟩ [a, b]) := .mk h1 (by decide) (by decide) (fun k hk => by
 simp only [List.mem_cons, List.not_mem_nil, or_false] at hk
 rcases hk with rfl | rfl
 ·exact ha
 ·exact hb)
theorem fo {k ks us nm al e} (h1 : nm.size ≤ 65536) (h2 : us.length ≤ 65536) (h3 : us.all (fun u => decide (u.size ≤ 65536)) = true) (h4 : ∀ a, a ∈ al → a.name.size ≤ 65536 ∧ ch a.e) (h5 : ch e) : g9 ⟨k, ks, us, nm, al, e⟩ :=
 ⟨h1, h2, fun u hu => of_decide_eq_true (List.all_eq_true.1 h3 u hu), h4, h5⟩
theorem kG : ch dP := ⟨⟨by decide, by decide⟩, ⟨by decide, by decide⟩, h_ _, fun k hk => by simp at hk⟩
theorem oV : m4 dB := by
 refine ⟨by decide, fun p hp => ?_, fun x hx => ?_⟩
 ·simp only [dB, List.mem_cons, List.not_mem_nil, or_false] at hp
  subst hp
  exact ⟨by decide, by decide, by decide⟩
 ·simp only [dB, List.mem_cons, List.not_mem_nil, or_false] at hx
  have h0 : ∀ a : Ar, a ∈ ([] : List Ar) → a.name.size ≤ 65536 ∧ ch a.e := fun a ha => by simp at ha
  rcases hx with rfl | rfl | rfl | rfl | rfl | rfl | rfl
  ·exact fo (by decide) (by decide) (by decide) h0 kG
  ·exact fo (by decide) (by decide) (by decide) h0 kG
  ·refine fo (by decide) (by decide) (by decide) (fun a ha => ?_) kG
   simp only [List.mem_cons, List.not_mem_nil, or_false] at ha
   subst ha
   exact ⟨by decide, tI (by decide) (lx (by decide) (by decide) (by decide)) (lx (by decide) (by decide) (by decide))⟩
  ·exact fo (by decide) (by decide) (by decide) h0 (tI (by decide) (lx (by decide) (by decide) (by decide)) (lx (by decide) (by decide) (by decide)))
  ·exact fo (by decide) (by decide) (by decide) h0 kG
  ·exact fo (by decide) (by decide) (by decide) h0 kG
  ·exact fo (by decide) (by decide) (by decide) h0 kG
theorem sf {P} (r pA pc nA nc w) (h : iq P w r pA pc nA nc) (hr : m4 r) (hT : bq w) :
  Calls prog 19 #[m5 r pA pc nA nc] w (nZ (kE r 2) w) := by
 have hb1 : Below w.heap.size w (w.alloc (.cells #[.string r.name, .slice pA r.params.length pc, .slice nA r.nodes.length nc] 26)) := (J_ _ _).alloc le_ _
 have HN := hid (u7 r pA pc nA nc 2 _ (h.below hb1) hr (hT.below hb1))
 have HB := hid hb1
 clear h hr hT hb1
 go_enter func19, ntmps19
 go_wp2_with fail
 refine HN.out.mono ?_
 rintro e w2 ⟨B, b, rfl, h2, hb2⟩
 have H2 := hj_ (h2.more (Q := fun k => k < w.heap.size) (fun k hk => .inl (Y_ hk HB.out.size))) (HB.out.trans (hb2.mono HB.out.size))
 clear h2 hb2
 go_wp2_with fail
 go_ret
 exact ⟨B, b, rfl, H2.out.1, H2.out.2⟩
theorem jr (w) (hT : bq w) : Calls prog 8 #[] w fun r w' => r = .returned (.bool true) ∧ Below w.heap.size w w' := by
 have h := gJ sb w hT (by decide)
 rw [sd] at h
 have HPAR : Hid (Calls prog 9 #[.string sb] w fun r w' => ∃ pA pc nA nc, r = .returned (.tuple #[.agg #[.string ⟨#[114]⟩, .slice pA 1 pc, .slice nA 7 nc], .int .i64 0, .int .i64 0]) ∧ iq (fun k => k < w.heap.size) w' dB pA pc nA nc ∧ Below w.heap.size w w') :=
  hid (h.mono (fun r w' ⟨pA, pc, nA, nc, e, h1, h2, h3⟩ => ⟨pA, pc, nA, nc, e, ⟨h1, h2⟩, h3⟩))
 have HT := hid hT
 clear h hT
 go_enter func8, ntmps8
 go_wp2_with fail
 refine HPAR.out.mono ?_
 rintro r w1 ⟨pA, pc, nA, nc, rfl, hR1, hb1⟩
 obtain ⟨ad, rfl⟩ := dX hR1.nds 0 (by decide)
 have H1 := hj_ hR1 hb1
 clear hR1 hb1
 obtain ⟨w2, hw2, hb2, _⟩ := alo_ w1 (.cells #[.string ⟨#[114]⟩, .slice pA 1 pc, .slice (some ad) 7 nc] 26)
 have hx2 : w2.heap[w1.heap.size]? = some (.cells #[.string ⟨#[114]⟩, .slice pA 1 pc, .slice (some ad) 7 nc] 26 (0, 0)) := hw2 ▸ I_ _ _
 have hR2 := H1.out.1.below hb2
 obtain ⟨kA, kc, uA, uc, gA, gc, eA, ec, ⟨c0, c1, _⟩, hkr, _, _, _, hnl⟩ := da hR2.nds 3 (by decide)
 obtain ⟨kd, rfl, k1, hkl⟩ := bX hkr 1 (by decide)
 have hB2 : Below w.heap.size w w2 := H1.out.2.trans (hb2.mono H1.out.2.size)
 have H2 := hl_ hR2 hB2 hx2 (HT.out.below hB2)
 have HW2 := hid hw2
 replace c0 : w2.cell? ⟨ad.block, ad.off + 27, none⟩ = some (.int .i64 4) := c0
 replace c1 : w2.cell? ⟨ad.block, ad.off + 28, none⟩ = some (.slice (some kd) 2 kc) := c1
 replace k1 : w2.cell? ⟨kd.block, kd.off + 1, none⟩ = some (.int .i64 6) := k1
 replace hnl : ad.block < w2.heap.size := hnl
 have hkc : 2 ≤ kc := hkr.1
 have hnc : 7 ≤ nc := hR2.nds.1
 obtain ⟨⟨x0, x1, x2⟩, _⟩ := bx hx2
 have hlx := ab hx2
 clear hkr hR2 hb2 hB2 hx2 hw2
 go_upto_region 2 with fail
 rw [HW2.out]
 go_wp2_with fail
 refine (ir dB pA pc (some ad) nc w2 H2.out.1 oV H2.out.2.2.2).mono ?_
 rw [jq]
 rintro r w3 ⟨rfl, hb3⟩
 have H3 := hl_ (H2.out.1.below hb3) (H2.out.2.1.trans (hb3.mono H2.out.2.1.size)) ((hb3.block _ hlx).trans H2.out.2.2.1) (H2.out.2.2.2.below hb3)
 clear hb3 x0 x1 x2 hlx c0 c1 k1 hnl hkl
 obtain ⟨⟨x0, x1, x2⟩, _⟩ := bx H3.out.2.2.1
 have hlx := ab H3.out.2.2.1
 go_wp2_with fail
 refine (sf dB pA pc (some ad) nc w3 H3.out.1 oV H3.out.2.2.2).mono ?_
 rw [qu]
 rintro r w4 ⟨B, b, rfl, _, hb4⟩
 have H4 := hl_ (H3.out.1.below hb4) (H3.out.2.1.trans (hb4.mono H3.out.2.1.size)) ((hb4.block _ hlx).trans H3.out.2.2.1) (H3.out.2.2.2.below hb4)
 clear hb4 x0 x1 x2 hlx
 obtain ⟨⟨x0, x1, x2⟩, _⟩ := bx H4.out.2.2.1
 have hlx := ab H4.out.2.2.1
 go_wp2_with fail
 refine (mr dB pA pc (some ad) nc w4 H4.out.1 oV H4.out.2.2.2).mono ?_
 rintro r w5 ⟨rfl, hb5⟩
 have hz : (gG dB).size = 109 := by
  unfold gG
  rw [M_ jq, aY, u_]
 have H5 := hid (H4.out.2.1.trans (hb5.mono H4.out.2.1.size))
 clear hb5 x0 x1 x2 hlx
 go_wp2_with fail
 go_ret
 exact ⟨rfl, H5.out⟩
end Go.Proofs.YtgcfjkfipkfijaaGreatDoor
namespace Go.Proofs.YtgcfjkfipkfijaaGreatDoor
open Go Go.RowKit Go.Lib Tryz
def cS (n len : Int) (nd : Int → Int → List UInt8 × Int) : List Int → List UInt8 → Int → List UInt8 × Int
 | [], s, left => (s, left)
 | k :: ks, s, left => if left - 1 < 0 ∨ k ≤ n ∨ len ≤ k then ([], -1) else if (nd k (left - 1)).2 < 0 then ([], -1) else cS n len nd ks (s ++ (nd k (left - 1)).1) (nd k (left - 1)).2
def la (x : Nd) : List UInt8 :=
 if x.kind = 1 then [112, 97, 114] else if x.kind = 2 then [117, 110, 105, 116, 32] ++ Lib.join ((x.units.take 6).map dh) [44, 32] else [115, 101, 113]
def iu (x : Nd) (n len left : Int) : Prop := x.kids.length ≠ 2 ∨ left < 2 ∨ k0 x ≤ n ∨ k1 x ≤ n ∨ len ≤ k0 x ∨ len ≤ k1 x
instance (x : Nd) (n len left : Int) : Decidable (iu x n len left) := by unfold iu; infer_instance
def n6 (l : List Nd) (x : Nd) (ind b : List UInt8) : List UInt8 := if (bf l (k1 x)).kids = [] then [] else ind ++ [125, 32, 101, 108, 115, 101, 32, 123, 10] ++ b
def gK (l : List Nd) (K : Int → List UInt8 → Int → List UInt8 × Int) (x : Nd) (n : Int) (ind : List UInt8) (left : Int) : List UInt8 × Int :=
 if iu x n l.length left then ([], -1)
 else if (K (k0 x) (ind ++ [32, 32]) (left - 2)).2 < 0 then ([], -1)
 else (mY x ind ++ (K (k0 x) (ind ++ [32, 32]) (left - 2)).1 ++ n6 l x ind (K (k1 x) (ind ++ [32, 32]) (K (k0 x) (ind ++ [32, 32]) (left - 2)).2).1 ++ ind ++ [125, 10], (K (k1 x) (ind ++ [32, 32]) (K (k0 x) (ind ++ [32, 32]) (left - 2)).2).2)
def aL (l : List Nd) (nd : Int → List UInt8 → Int → List UInt8 × Int) (k : Int) (ind : List UInt8) (left : Int) : List UInt8 × Int := cS k l.length (fun j L => nd j ind L) (bf l k).kids [] left
def u' (l : List Nd) (K : Int → List UInt8 → Int → List UInt8 × Int) (k : Int) (ind : List UInt8) (left : Int) : List UInt8 × Int :=
 if (bf l k).kind = 3 then (ep (bf l k) ind, left)
 else if (bf l k).kind = 4 then gK l K (bf l k) k ind left
 else (ind ++ la (bf l k) ++ [32, 123, 10] ++ (K k (ind ++ [32, 32]) left).1 ++ ind ++ [125, 10], (K k (ind ++ [32, 32]) left).2)
def cH (l : List Nd) : Nat → Int → List UInt8 → Int → List UInt8 × Int
 | 0, _, _, left => ([], left)
 | f + 1, k, ind, left => u' l (aL l (cH l f)) k ind left
def lb (r : lp) : List UInt8 × Bool :=
 if 4 < r.params.length ∨ r.nodes.length < 1 ∨ 24 < r.nodes.length then ([], false)
 else (du r ++ bs r.params ++ [123, 10] ++ (aL r.nodes (cH r.nodes 24) 0 [32, 32] r.nodes.length).1 ++ [125, 10], decide (0 ≤ (aL r.nodes (cH r.nodes 24) 0 [32, 32] r.nodes.length).2))
def zM (out : List UInt8) (s : WS) (t : List UInt8 × Int) : Prop := (0 ≤ t.2 → s = ⟨out ++ t.1, t.2, false⟩) ∧ (t.2 < 0 → s.bad = true)
theorem n7 {n len nd} : ∀ (ks : List Int) (s : WS), s.bad = true → (dK n len nd ks s).bad = true
 | [], s, h => h
 | k :: ks, s, h => by rw [dK, M_ (.inr (.inr (.inr h)))]
theorem kH {n len nd nd'} (hnd : ∀ k out L, 0 ≤ L → zM out (nd k ⟨out, L, false⟩) (nd' k L)) : ∀ (ks : List Int) (out s0 : List UInt8) (L : Int), 0 ≤ L → zM out (dK n len nd ks ⟨out ++ s0, L, false⟩) (cS n len nd' ks s0 L)
 | [], out, s0, L, hL => ⟨fun _ => rfl, fun h => absurd h (by simp only [cS]; omega)⟩
 | k :: ks, out, s0, L, hL => by
  rw [dK, cS]
  by_cases hc : L - 1 < 0 ∨ k ≤ n ∨ len ≤ k
  ·rw [M_ hc, M_ (by rcases hc with h | h | h; exact .inr (.inr (.inl h)); exact .inl h; exact .inr (.inl h))]
   exact ⟨fun h => absurd h (by decide), fun _ => rfl⟩
  ·rw [K_ hc, K_ (by rintro (h | h | h | h); exact hc (.inr (.inl h)); exact hc (.inr (.inr h)); exact hc (.inl h); exact absurd h (by simp))]
   have h1 := hnd k (out ++ s0) (L - 1) (by omega)
   by_cases ht : (nd' k (L - 1)).2 < 0
   ·rw [M_ ht]
    exact ⟨fun h => absurd h (by decide), fun _ => n7 ks _ (h1.2 ht)⟩
   ·rw [K_ ht, h1.1 (by omega), o_]
    exact kH hnd ks out _ _ (by omega)
theorem va {l K} (hK : ∀ k ind s, s.bad = true → (K k ind s).bad = true) (x ind s) (h : s.bad = true) : (f' l K x ind s).bad = true := by
 unfold f'
 split
 ·exact h
 ·exact hK _ _ _ h
theorem zj {l K K'} (hu : ∀ k, (bf l k).units.length ≤ 6) (hb : ∀ k ind s, s.bad = true → (K k ind s).bad = true) (hK : ∀ k ind out L, 0 ≤ L → zM out (K k ind ⟨out, L, false⟩) (K' k ind L)) (hK0 : ∀ k ind L, (bf l k).kids = [] → K' k ind L = ([], L)) (k ind out L) (hL : 0 ≤ L) :
  zM out (kW l K k ind ⟨out, L, false⟩) (u' l K' k ind L) := by
 unfold kW u'
 have hh : la (bf l k) = f8 (bf l k) := by unfold la f8; rw [List.take_of_length_le (hu k)]
 obtain ⟨x, hx⟩ := nm_ (bf l k)
 rw [hx] at hh ⊢
 rw [hh]
 by_cases h3 : x.kind = 3
 ·rw [M_ h3, K_ (by omega), M_ h3]
  exact ⟨fun _ => rfl, fun h => absurd h (by show ¬ L < 0; omega)⟩
 ·simp only [K_ h3]
  by_cases h4 : x.kind = 4
  ·simp only [M_ h4]
   unfold gF gK
   by_cases hc : iu x k l.length L
   ·rw [M_ hc, M_ (by
     unfold cr
     rcases hc with h | h | h | h | h | h
     ·exact .inl h
     ·exact .inr (.inr (.inr (.inr (by simp only; omega))))
     ·exact .inr (.inl h)
     ·exact .inr (.inr (.inl h))
     ·exact .inr (.inr (.inr (.inl (by omega))))
     ·exact .inr (.inr (.inr (.inl (by omega)))))]
    exact ⟨fun h => absurd h (by decide), fun _ => rfl⟩
   ·rw [K_ hc, K_ (by
     rintro (h | h | h | h | h)
     ·exact hc (.inl h)
     ·exact hc (.inr (.inr (.inl h)))
     ·exact hc (.inr (.inr (.inr (.inl h))))
     ·have : (l.length : Int) ≤ k0 x ∨ (l.length : Int) ≤ k1 x := by omega
      exact hc (.inr (.inr (.inr (.inr this))))
     ·exact hc (.inr (.inl (by simp only at h; omega))))]
    have hL2 : 0 ≤ L - 2 := by
     have : ¬ L < 2 := fun h => hc (.inr (.inl h))
     omega
    have h1 := hK (k0 x) (ind ++ [32, 32]) (out ++ mY x ind) (L - 2) hL2
    obtain ⟨a, ha⟩ := nm_ (K' (k0 x) (ind ++ [32, 32]) (L - 2))
    rw [ha] at h1 ⊢
    show zM out (bG (ind ++ [125, 10]) (f' l K x ind (K (k0 x) (ind ++ [32, 32]) ⟨out ++ mY x ind, L - 2, false⟩))) _
    by_cases ha0 : a.2 < 0
    ·rw [M_ ha0]
     exact ⟨fun h => absurd h (by decide), fun _ => va hb x ind _ (h1.2 ha0)⟩
    ·rw [K_ ha0, h1.1 (by omega)]
     unfold f' n6
     by_cases he : (bf l (k1 x)).kids = []
     ·rw [M_ he, M_ he, hK0 _ _ _ he]
      exact ⟨fun _ => by simp [bG], fun h => absurd h ha0⟩
     ·rw [K_ he, K_ he]
      have h2 := hK (k1 x) (ind ++ [32, 32]) (out ++ mY x ind ++ a.1 ++ (ind ++ [125, 32, 101, 108, 115, 101, 32, 123, 10])) a.2 (by omega)
      obtain ⟨b, hbb⟩ := nm_ (K' (k1 x) (ind ++ [32, 32]) a.2)
      rw [hbb] at h2 ⊢
      show zM out (bG (ind ++ [125, 10]) (K (k1 x) (ind ++ [32, 32]) ⟨out ++ mY x ind ++ a.1 ++ (ind ++ [125, 32, 101, 108, 115, 101, 32, 123, 10]), a.2, false⟩)) _
      refine ⟨fun h => ?_, fun h => h2.2 h⟩
      rw [h2.1 h]
      simp [bG]
  ·simp only [K_ h4]
   have h1 := hK k (ind ++ [32, 32]) (out ++ (ind ++ f8 x ++ [32, 123, 10])) L hL
   obtain ⟨a, ha⟩ := nm_ (K' k (ind ++ [32, 32]) L)
   rw [ha] at h1 ⊢
   show zM out (bG (ind ++ [125, 10]) (K k (ind ++ [32, 32]) ⟨out ++ (ind ++ f8 x ++ [32, 123, 10]), L, false⟩)) _
   refine ⟨fun h => ?_, fun h => h1.2 h⟩
   rw [h1.1 h]
   simp [bG]
theorem qv {l} (hu : ∀ k, (bf l k).units.length ≤ 6) : ∀ (f : Nat), (∀ k ind out L, 0 ≤ L → zM out (aS l f k ind ⟨out, L, false⟩) (cH l f k ind L))
 | 0, k, ind, out, L, hL => ⟨fun _ => by simp [aS, cH], fun h => absurd h (by simp only [cH]; omega)⟩
 | f + 1, k, ind, out, L, hL => by
  rw [aS, cH]
  refine zj hu (fun k ind s h => n7 _ s h) (fun k ind out L hL => ?_) (fun k ind L h => ?_) k ind out L hL
  ·have := kH (n := k) (len := l.length) (nd := fun j => aS l f j ind) (nd' := fun j L => cH l f j ind L) (fun j out L hL => qv hu f j ind out L hL) (bf l k).kids out [] L hL
   rw [List.append_nil] at this
   exact this
  ·unfold aL; rw [h]; rfl
theorem vb {r} (hu : ∀ x, x ∈ r.nodes → x.units.length ≤ 6) : (lb r).2 = (cb r).2 ∧ ((cb r).2 = true → (lb r).1 = (cb r).1) := by
 have hu' : ∀ k, (bf r.nodes k).units.length ≤ 6 := fun k => by
  unfold bf
  rw [S_]
  cases hh : r.nodes[k.toNat]? with
  | none => exact h_ _
  | some x => exact hu x (List.mem_of_getElem? hh)
 unfold lb cb
 by_cases hc : 4 < r.params.length ∨ r.nodes.length < 1 ∨ 24 < r.nodes.length
 ·rw [M_ hc, M_ hc]; exact ⟨rfl, fun h => absurd h (by decide)⟩
 ·rw [K_ hc, K_ hc]
  have h := kH (n := 0) (len := r.nodes.length) (nd := fun j => aS r.nodes 24 j [32, 32]) (nd' := fun j L => cH r.nodes 24 j [32, 32] L) (fun j out L hL => qv hu' 24 j _ out L hL) (bf r.nodes 0).kids (du r ++ bs r.params ++ [123, 10]) [] r.nodes.length (by omega)
  rw [List.append_nil] at h
  have hW : qi r = bG [125, 10] (dK 0 r.nodes.length (fun j => aS r.nodes 24 j [32, 32]) (bf r.nodes 0).kids ⟨du r ++ bs r.params ++ [123, 10], r.nodes.length, false⟩) := rfl
  have hX : aL r.nodes (cH r.nodes 24) 0 [32, 32] r.nodes.length = cS 0 r.nodes.length (fun j L => cH r.nodes 24 j [32, 32] L) (bf r.nodes 0).kids [] r.nodes.length := rfl
  rw [hW, hX]
  obtain ⟨t, ht⟩ := nm_ (cS 0 r.nodes.length (fun j L => cH r.nodes 24 j [32, 32] L) (bf r.nodes 0).kids [] r.nodes.length)
  rw [ht] at h ⊢
  by_cases h0 : 0 ≤ t.2
  ·rw [h.1 h0]
   exact ⟨by simp [bG, h0], fun _ => by simp [bG]⟩
  ·have hb := h.2 (by omega)
   have e : (bG [125, 10] (dK 0 r.nodes.length (fun j => aS r.nodes 24 j [32, 32]) (bf r.nodes 0).kids ⟨du r ++ bs r.params ++ [123, 10], r.nodes.length, false⟩)).bad = true := hb
   simp only [e]
   exact ⟨by simp [h0], fun h => absurd h (by decide)⟩
end Go.Proofs.YtgcfjkfipkfijaaGreatDoor
