/- Part 17 of the proof of rtexts_card; no conditions. -/
import Derived.Test.YtgcfjkfipkfijaaGreatDoorTx14
import Derived.Test.YtgcfjkfipkfijaaGreatDoorTx16
namespace Go.Proofs.YtgcfjkfipkfijaaGreatDoor
open Go Go.RowKit Go.Lib
theorem enters_ar (args : Array Value) (W : World) : (callFunc 99 args).run Tryz.prog W = .ok (.enter 99 args) W := enters_of Tryz.func99 (by kernel_rfl) rfl args W
theorem enters_nd (args : Array Value) (W : World) : (callFunc 71 args).run Tryz.prog W = .ok (.enter 71 args) W := enters_of Tryz.func71 (by kernel_rfl) rfl args W
set_option maxHeartbeats 8000000 in
set_option maxRecDepth 100000 in
open Classical in
theorem alike1_any {P Q : Nat → Prop} (x y : Ar) (A : Option Addr) (c : Nat) (B : Option Addr) (d : Nat) (w : World) (ha : ExF P w x.e A c) (hb : ExF Q w y.e B d) :
  Calls Tryz.prog 99 #[.agg #[.string x.name, .int .i64 x.e.op, .int .i64 x.e.n, .string x.e.name, .slice A x.e.kids.length c], .agg #[.string y.name, .int .i64 y.e.op, .int .i64 y.e.n, .string y.e.name, .slice B y.e.kids.length d]] w
   fun r w' => r = .returned (.bool (decide (x = y))) ∧ Below w.heap.size w w' := by
 obtain ⟨nm, e⟩ := x
 obtain ⟨nm', e'⟩ := y
 simp only at ha hb ⊢
 have HE : Hid (∀ W, Below w.heap.size w W → Calls Tryz.prog 100 #[exV e A c, exV e' B d] W fun r w' => r = .returned (.bool (decide (e = e'))) ∧ Below W.heap.size W w') := Lib.hid (fun W hW => equal_any e e' A c B d W (ha.below hW) (hb.below hW))
 obtain ⟨q, hq⟩ : ∃ q, decide (e = e') = q := ⟨_, rfl⟩
 rw [hq] at HE
 obtain ⟨R, hR⟩ : ∃ q, decide ((⟨nm, e⟩ : Ar) = ⟨nm', e'⟩) = q := ⟨_, rfl⟩
 rw [hR]
 obtain ⟨w0, hw0, hal, hx, hy⟩ := two_box (w := w) (cs := #[.string nm, .int .i64 e.op, .int .i64 e.n, .string e.name, .slice A e.kids.length c]) (ds := #[.string nm', .int .i64 e'.op, .int .i64 e'.n, .string e'.name, .slice B e'.kids.length d]) (t := 75) (u := 75)
 obtain ⟨x0, x1, x2, x3, x4⟩ := blk5a hx
 obtain ⟨y0, y1, y2, y3, y4⟩ := blk5a hy
 have hlx := blk_lt hx
 have hly := blk_lt hy
 have HW0 := Lib.hid hw0
 have HAL := Lib.hid hal
 have HR := Lib.hid (⟨hq, hR⟩ : _ ∧ _)
 clear ha hb hx hy hw0 hal hq hR
 by_cases h1 : nm = nm'
 ·subst h1
  have HQ : Hid (R = q) := Lib.hid (by rw [← HR.out.1, ← HR.out.2]; simp)
  go_enter Tryz.func99, Tryz.ntmps99
  go_wp2_with fail
  rw [HW0.out]
  refine (HE.out _ HAL.out).mono ?_
  rintro r w5 ⟨rfl, hb5⟩
  have HB5 := Lib.hid (HAL.out.trans (hb5.mono HAL.out.size))
  clear hb5
  go_wp2_with fail
  go_ret
  exact ⟨by rw [HQ.out]; rfl, HB5.out⟩
 ·have HQ : Hid (R = false) := Lib.hid (by rw [← HR.out.2]; exact decide_eq_false (fun e => h1 (by injection e)))
  obtain ⟨t1, t3⟩ := str_ne h1
  go_enter Tryz.func99, Tryz.ntmps99
  go_wp2_with fail
  rw [HW0.out]
  go_ret
  exact ⟨by rw [HQ.out]; rfl, HAL.out⟩
theorem nd9 {w : World} {k : Nat} {v0 v1 v2 v3 v4 v5 v6 v7 v8 : Value} {t : TypeId} (h : w.heap[k]? = some (.cells #[v0, v1, v2, v3, v4, v5, v6, v7, v8] t (0, 0))) :
  (w.cell? ⟨k, 0, none⟩ = some v0 ∧ w.cell? ⟨k, 1, none⟩ = some v1 ∧ w.cell? ⟨k, 2, none⟩ = some v2 ∧ w.cell? ⟨k, 3, none⟩ = some v3 ∧ w.cell? ⟨k, 4, none⟩ = some v4) ∧ w.cell? ⟨k, 5, none⟩ = some v5 ∧ w.cell? ⟨k, 6, none⟩ = some v6 ∧ w.cell? ⟨k, 7, none⟩ = some v7 ∧ w.cell? ⟨k, 8, none⟩ = some v8 :=
 ⟨⟨blk_cell h 0, blk_cell h 1, blk_cell h 2, blk_cell h 3, blk_cell h 4⟩, blk_cell h 5, blk_cell h 6, blk_cell h 7, blk_cell h 8⟩
set_option maxHeartbeats 16000000 in
set_option maxRecDepth 100000 in
open Classical in
theorem alike_any {P Q : Nat → Prop} (x y : Nd) (kA : Option Addr) (kc : Nat) (uA : Option Addr) (uc : Nat) (gA : Option Addr) (gc : Nat) (eA : Option Addr) (ec : Nat) (kA' : Option Addr) (kc' : Nat) (uA' : Option Addr) (uc' : Nat) (gA' : Option Addr) (gc' : Nat) (eA' : Option Addr) (ec' : Nat) (w : World)
  (ha : NdF P w x kA kc uA uc gA gc eA ec) (hb : NdF Q w y kA' kc' uA' uc' gA' gc' eA' ec') :
  Calls Tryz.prog 71 #[ndV x kA kc uA uc gA gc eA ec, ndV y kA' kc' uA' uc' gA' gc' eA' ec'] w fun r w' => r = .returned (.bool (decide (x = y))) ∧ Below w.heap.size w w' := by
 obtain ⟨k, ki, us, nm, al, e⟩ := x
 obtain ⟨k', ki', us', nm', al', e'⟩ := y
 have H1 : Hid (∀ W, Below w.heap.size w W → Calls Tryz.prog 101 #[.slice kA ki.length kc, .slice kA' ki'.length kc'] W fun r w' => r = .returned (.bool (decide (ki = ki'))) ∧ Below W.heap.size W w') := Lib.hid (fun W hW => eq_ints (ha.kids.below hW) (hb.kids.below hW))
 have H2 : Hid (∀ W, Below w.heap.size w W → Calls Tryz.prog 102 #[.slice uA us.length uc, .slice uA' us'.length uc'] W fun r w' => r = .returned (.bool (decide (us = us'))) ∧ Below W.heap.size W w') := Lib.hid (fun W hW => eq_strs (ha.units.below hW) (hb.units.below hW))
 have H3 : Hid (∀ W, Below w.heap.size w W → Calls Tryz.prog 103 #[.slice gA al.length gc, .slice gA' al'.length gc', .func (.func 99) #[] #[]] W fun r w' => r = .returned (.bool (decide (al = al'))) ∧ Below W.heap.size W w') :=
  Lib.hid (fun W hW => eqf_ars (ha.args.below hW) (hb.args.below hW) enters_ar (fun i hi hj u v W' hW' hu hv => by
   obtain ⟨A, c, rfl, hx⟩ := hu
   obtain ⟨B, d, rfl, hy⟩ := hv
   exact alike1_any _ _ A c B d W' hx hy))
 have H4 : Hid (∀ W, Below w.heap.size w W → Calls Tryz.prog 100 #[exV e eA ec, exV e' eA' ec'] W fun r w' => r = .returned (.bool (decide (e = e'))) ∧ Below W.heap.size W w') := Lib.hid (fun W hW => equal_any e e' eA ec eA' ec' W (ha.ex.below hW) (hb.ex.below hW))
 obtain ⟨q1, hq1⟩ : ∃ q, decide (ki = ki') = q := ⟨_, rfl⟩
 obtain ⟨q2, hq2⟩ : ∃ q, decide (us = us') = q := ⟨_, rfl⟩
 obtain ⟨q3, hq3⟩ : ∃ q, decide (al = al') = q := ⟨_, rfl⟩
 obtain ⟨q4, hq4⟩ : ∃ q, decide (e = e') = q := ⟨_, rfl⟩
 rw [hq1] at H1
 rw [hq2] at H2
 rw [hq3] at H3
 rw [hq4] at H4
 obtain ⟨R, hR⟩ : ∃ q, decide ((⟨k, ki, us, nm, al, e⟩ : Nd) = ⟨k', ki', us', nm', al', e'⟩) = q := ⟨_, rfl⟩
 rw [hR]
 have hRR : R = (k == k' && (decide (nm = nm') && (q1 && (q2 && (q3 && q4))))) := by
  rw [← hR, ← hq1, ← hq2, ← hq3, ← hq4, Bool.eq_iff_iff]
  simp only [Bool.and_eq_true, decide_eq_true_eq, beq_iff_eq, Nd.mk.injEq]
  exact ⟨fun ⟨a, b, c, d, e, f⟩ => ⟨a, d, b, c, e, f⟩, fun ⟨a, d, b, c, e, f⟩ => ⟨a, b, c, d, e, f⟩⟩
 obtain ⟨w0, hw0, hal, hx, hy⟩ := two_box (w := w) (cs := #[.int .i64 k, .slice kA ki.length kc, .slice uA us.length uc, .string nm, .slice gA al.length gc, .int .i64 e.op, .int .i64 e.n, .string e.name, .slice eA e.kids.length ec])
  (ds := #[.int .i64 k', .slice kA' ki'.length kc', .slice uA' us'.length uc', .string nm', .slice gA' al'.length gc', .int .i64 e'.op, .int .i64 e'.n, .string e'.name, .slice eA' e'.kids.length ec']) (t := 43) (u := 43)
 have HX := Lib.hid hx
 have HY := Lib.hid hy
 obtain ⟨⟨x0, x1, x2, x3, x4⟩, x5, x6, x7, x8⟩ := nd9 hx
 obtain ⟨⟨y0, y1, y2, y3, y4⟩, y5, y6, y7, y8⟩ := nd9 hy
 have hlx := blk_lt hx
 have hly := blk_lt hy
 have HW0 := Lib.hid hw0
 have HAL := Lib.hid hal
 have HR := Lib.hid hRR
 clear ha hb hx hy hw0 hal hq1 hq2 hq3 hq4 hR hRR
 have key : (k == k') = false ∨ k = k' ∧ ((nm.data.toList == nm'.data.toList) = false ∧ (nm.toList == nm'.toList) = false ∧ nm ≠ nm' ∨ nm = nm') := by
  by_cases e1 : k = k'
  ·refine .inr ⟨e1, ?_⟩
   by_cases e2 : nm = nm'
   ·exact .inr e2
   ·exact .inl ⟨(str_ne e2).1, (str_ne e2).2, e2⟩
  ·exact .inl (beqf e1)
 rcases key with t1 | ⟨rfl, ⟨t1, t3, t4⟩ | rfl⟩
 ·go_enter Tryz.func71, Tryz.ntmps71
  go_wp2_with fail
  rw [HW0.out]
  go_ret
  exact ⟨by rw [HR.out, t1]; rfl, HAL.out⟩
 ·have HQ : Hid (R = false) := Lib.hid (by rw [HR.out, decide_eq_false t4, Bool.false_and, Bool.and_false])
  clear t4
  go_enter Tryz.func71, Tryz.ntmps71
  go_wp2_with fail
  rw [HW0.out]
  go_ret
  exact ⟨by rw [HQ.out]; rfl, HAL.out⟩
 ·have HQ : Hid (R = (q1 && (q2 && (q3 && q4)))) := Lib.hid (by rw [HR.out, decide_eq_true rfl, beq_self_eq_true, Bool.true_and, Bool.true_and])
  go_enter Tryz.func71, Tryz.ntmps71
  go_wp2_with fail
  rw [HW0.out]
  refine (H1.out _ HAL.out).mono ?_
  rintro r w1 ⟨rfl, hb1⟩
  have HB1 := Lib.hid (⟨HAL.out.trans (hb1.mono HAL.out.size), (hb1.block _ hlx).trans HX.out, (hb1.block _ hly).trans HY.out⟩ : _ ∧ _ ∧ _)
  clear hb1 x0 x1 x2 x3 x4 x5 x6 x7 x8 y0 y1 y2 y3 y4 y5 y6 y7 y8 hlx hly
  cases q1
  ·go_wp2_with fail
   go_ret
   exact ⟨by rw [HQ.out]; rfl, HB1.out.1⟩
  obtain ⟨⟨_, _, x2, _, _⟩, _⟩ := nd9 HB1.out.2.1
  obtain ⟨⟨_, _, y2, _, _⟩, _⟩ := nd9 HB1.out.2.2
  have hlx := blk_lt HB1.out.2.1
  have hly := blk_lt HB1.out.2.2
  go_wp2_with fail
  refine (H2.out _ HB1.out.1).mono ?_
  rintro r w2 ⟨rfl, hb2⟩
  have HB2 := Lib.hid (⟨HB1.out.1.trans (hb2.mono HB1.out.1.size), (hb2.block _ hlx).trans HB1.out.2.1, (hb2.block _ hly).trans HB1.out.2.2⟩ : _ ∧ _ ∧ _)
  clear hb2 x2 y2 hlx hly
  cases q2
  ·go_wp2_with fail
   go_ret
   exact ⟨by rw [HQ.out]; rfl, HB2.out.1⟩
  obtain ⟨⟨_, _, _, _, x4⟩, _⟩ := nd9 HB2.out.2.1
  obtain ⟨⟨_, _, _, _, y4⟩, _⟩ := nd9 HB2.out.2.2
  have hlx := blk_lt HB2.out.2.1
  have hly := blk_lt HB2.out.2.2
  go_wp2_with fail
  refine (H3.out _ HB2.out.1).mono ?_
  rintro r w3 ⟨rfl, hb3⟩
  have HB3 := Lib.hid (⟨HB2.out.1.trans (hb3.mono HB2.out.1.size), (hb3.block _ hlx).trans HB2.out.2.1, (hb3.block _ hly).trans HB2.out.2.2⟩ : _ ∧ _ ∧ _)
  clear hb3 x4 y4 hlx hly
  cases q3
  ·go_wp2_with fail
   go_ret
   exact ⟨by rw [HQ.out]; rfl, HB3.out.1⟩
  obtain ⟨_, x5, x6, x7, x8⟩ := nd9 HB3.out.2.1
  obtain ⟨_, y5, y6, y7, y8⟩ := nd9 HB3.out.2.2
  have hlx := blk_lt HB3.out.2.1
  have hly := blk_lt HB3.out.2.2
  go_wp2_with fail
  refine (H4.out _ HB3.out.1).mono ?_
  rintro r w4 ⟨rfl, hb4⟩
  have HB4 := Lib.hid (HB3.out.1.trans (hb4.mono HB3.out.1.size))
  clear hb4 x5 x6 x7 x8 y5 y6 y7 y8 hlx hly
  go_wp2_with fail
  go_ret
  exact ⟨by rw [HQ.out]; rfl, HB4.out⟩
structure RecF (P : Nat → Prop) (w : World) (r : Rec) (pA : Option Addr) (pc : Nat) (nA : Option Addr) (nc : Nat) : Prop where
 prms : RowF prmK P w pA pc r.params
 nds : RowF ndK P w nA nc r.nodes
theorem RecF.below {P : Nat → Prop} {w w' : World} {r : Rec} {pA nA : Option Addr} {pc nc : Nat} (h : RecF P w r pA pc nA nc) (hs : Below w.heap.size w w') : RecF P w' r pA pc nA nc := ⟨h.prms.below hs, h.nds.below hs⟩
abbrev recV (r : Rec) (pA : Option Addr) (pc : Nat) (nA : Option Addr) (nc : Nat) : Value := .agg #[.string r.name, .slice pA r.params.length pc, .slice nA r.nodes.length nc]
set_option maxHeartbeats 16000000 in
set_option maxRecDepth 100000 in
open Classical in
theorem rsame_any {P Q : Nat → Prop} (x y : Rec) (pA : Option Addr) (pc : Nat) (nA : Option Addr) (nc : Nat) (pA' : Option Addr) (pc' : Nat) (nA' : Option Addr) (nc' : Nat) (w : World) (ha : RecF P w x pA pc nA nc) (hb : RecF Q w y pA' pc' nA' nc') :
  Calls Tryz.prog 42 #[recV x pA pc nA nc, recV y pA' pc' nA' nc'] w fun r w' => r = .returned (.bool (decide (x = y))) ∧ Below w.heap.size w w' := by
 obtain ⟨nm, ps, ns⟩ := x
 obtain ⟨nm', ps', ns'⟩ := y
 have H1 : Hid (∀ W, Below w.heap.size w W → Calls Tryz.prog 69 #[.slice pA ps.length pc, .slice pA' ps'.length pc'] W fun r w' => r = .returned (.bool (decide (ps = ps'))) ∧ Below W.heap.size W w') := Lib.hid (fun W hW => eq_prms (ha.prms.below hW) (hb.prms.below hW))
 have H2 : Hid (∀ W, Below w.heap.size w W → Calls Tryz.prog 70 #[.slice nA ns.length nc, .slice nA' ns'.length nc', .func (.func 71) #[] #[]] W fun r w' => r = .returned (.bool (decide (ns = ns'))) ∧ Below W.heap.size W w') :=
  Lib.hid (fun W hW => eqf_nds (ha.nds.below hW) (hb.nds.below hW) enters_nd (fun i hi hj u v W' hW' hu hv => by
   obtain ⟨a1, a2, a3, a4, a5, a6, a7, a8, rfl, hx⟩ := hu
   obtain ⟨b1, b2, b3, b4, b5, b6, b7, b8, rfl, hy⟩ := hv
   exact alike_any _ _ _ _ _ _ _ _ _ _ _ _ _ _ _ _ _ _ W' hx hy))
 obtain ⟨q1, hq1⟩ : ∃ q, decide (ps = ps') = q := ⟨_, rfl⟩
 obtain ⟨q2, hq2⟩ : ∃ q, decide (ns = ns') = q := ⟨_, rfl⟩
 rw [hq1] at H1
 rw [hq2] at H2
 obtain ⟨R, hR⟩ : ∃ q, decide ((⟨nm, ps, ns⟩ : Rec) = ⟨nm', ps', ns'⟩) = q := ⟨_, rfl⟩
 rw [hR]
 have hRR : R = (decide (nm = nm') && (q1 && q2)) := by
  rw [← hR, ← hq1, ← hq2, Bool.eq_iff_iff]
  simp only [Bool.and_eq_true, decide_eq_true_eq, Rec.mk.injEq]
 obtain ⟨w0, hw0, hal, hx, hy⟩ := two_box (w := w) (cs := #[.string nm, .slice pA ps.length pc, .slice nA ns.length nc]) (ds := #[.string nm', .slice pA' ps'.length pc', .slice nA' ns'.length nc']) (t := 26) (u := 26)
 have HX := Lib.hid hx
 have HY := Lib.hid hy
 obtain ⟨⟨x0, x1, x2⟩, _⟩ := blk3' hx
 obtain ⟨⟨y0, y1, y2⟩, _⟩ := blk3' hy
 have hlx := blk_lt hx
 have hly := blk_lt hy
 have HW0 := Lib.hid hw0
 have HAL := Lib.hid hal
 have HR := Lib.hid hRR
 clear ha hb hx hy hw0 hal hq1 hq2 hR hRR
 by_cases e1 : nm = nm'
 ·subst e1
  have HQ : Hid (R = (q1 && q2)) := Lib.hid (by rw [HR.out, decide_eq_true rfl, Bool.true_and])
  go_enter Tryz.func42, Tryz.ntmps42
  go_wp2_with fail
  rw [HW0.out]
  refine (H1.out _ HAL.out).mono ?_
  rintro r w1 ⟨rfl, hb1⟩
  have HB1 := Lib.hid (⟨HAL.out.trans (hb1.mono HAL.out.size), (hb1.block _ hlx).trans HX.out, (hb1.block _ hly).trans HY.out⟩ : _ ∧ _ ∧ _)
  clear hb1 x0 x1 x2 y0 y1 y2 hlx hly
  cases q1
  ·go_wp2_with fail
   go_ret
   exact ⟨by rw [HQ.out]; rfl, HB1.out.1⟩
  obtain ⟨⟨_, _, x2⟩, _⟩ := blk3' HB1.out.2.1
  obtain ⟨⟨_, _, y2⟩, _⟩ := blk3' HB1.out.2.2
  have hlx := blk_lt HB1.out.2.1
  have hly := blk_lt HB1.out.2.2
  go_wp2_with fail
  refine (H2.out _ HB1.out.1).mono ?_
  rintro r w2 ⟨rfl, hb2⟩
  have HB2 := Lib.hid (HB1.out.1.trans (hb2.mono HB1.out.1.size))
  clear hb2 x2 y2 hlx hly
  go_wp2_with fail
  go_ret
  exact ⟨by rw [HQ.out]; rfl, HB2.out⟩
 ·have HQ : Hid (R = false) := Lib.hid (by rw [HR.out, decide_eq_false e1, Bool.false_and])
  obtain ⟨t1, t3⟩ := str_ne e1
  clear e1
  go_enter Tryz.func42, Tryz.ntmps42
  go_wp2_with fail
  rw [HW0.out]
  go_ret
  exact ⟨by rw [HQ.out]; rfl, HAL.out⟩
end Go.Proofs.YtgcfjkfipkfijaaGreatDoor
namespace Go.Proofs.YtgcfjkfipkfijaaGreatDoor
open Go Go.RowKit Go.Lib
theorem rtext_len {r : Rec} (hr : RecN r) : ((textP r).1.length : Int) ≤ 1099511627778 := by
 unfold textP
 split
 ·simp
 ·rename_i hc
  unfold textW
  have h1 := prmsT_len r.params hr.prm
  have h2 : (topT r).length ≤ 65544 := by
   unfold topT
   simp only [List.length_append, bys_len, List.length_cons, List.length_nil]
   have := hr.name
   omega
  obtain ⟨sB, hsB⟩ : ∃ x, (⟨topT r ++ prmsT r.params ++ [123, 10], r.nodes.length, false⟩ : WS) = x := ⟨_, rfl⟩
  have hBl : sB.left = r.nodes.length := by rw [← hsB]
  have hBo : sB.out.length ≤ 400000 := by
   rw [← hsB]
   simp only [List.length_append, List.length_cons, List.length_nil]
   omega
  have hBp : pot sB ≤ 1099511627776 := by
   unfold pot ell
   rw [hBl]
   split <;> omega
  rw [hsB]
  have hkn := kidsK_n hr.nd 24 (-101) 0 [32, 32] sB (by decide) (by decide) (by omega)
  have h3 := pot_ge (kidsK r.nodes (nodeW r.nodes 24) 0 [32, 32] sB)
  have h4 := hkn.pot
  unfold wPut
  simp only [List.length_append, List.length_cons, List.length_nil]
  omega
set_option maxHeartbeats 8000000 in
set_option maxRecDepth 100000 in
open Classical in
theorem rmay_any {P : Nat → Prop} (r : Rec) (pA : Option Addr) (pc : Nat) (nA : Option Addr) (nc : Nat) (w : World) (h : RecF P w r pA pc nA nc) (hr : RecN r) (hT : Tabs w) :
  Calls Tryz.prog 13 #[recV r pA pc nA nc] w fun e w' => e = .returned (.bool (mayR r)) ∧ Below w.heap.size w w' := by
 obtain ⟨w1, hw1⟩ : ∃ w1, w.alloc (.cells #[.string r.name, .slice pA r.params.length pc, .slice nA r.nodes.length nc] 26) = w1 := ⟨_, rfl⟩
 have hb1 : Below w.heap.size w w1 := hw1 ▸ (Below.refl _ _).alloc (Nat.le_refl _) _
 have hx1 : w1.heap[w.heap.size]? = some (.cells #[.string r.name, .slice pA r.params.length pc, .slice nA r.nodes.length nc] 26 (0, 0)) := hw1 ▸ heap_alloc_new _ _
 have HTX := Lib.hid (rtext_any r pA pc nA nc w1 (h.below hb1).prms (h.below hb1).nds hr (hT.below hb1))
 obtain ⟨ANS, hANS⟩ : ∃ x, mayR r = x := ⟨_, rfl⟩
 rw [hANS]
 unfold mayR at hANS
 obtain ⟨⟨t, ok⟩, ht⟩ : ∃ x, textP r = x := ⟨_, rfl⟩
 rw [ht] at HTX hANS
 obtain ⟨⟨x, e, a⟩, hx⟩ : ∃ x, recP (str t) = x := ⟨_, rfl⟩
 simp only [hx] at hANS HTX
 have H := Lib.hid (⟨h, hT, hb1, hx, hANS, hx1⟩ : _ ∧ _ ∧ _ ∧ _ ∧ _ ∧ _)
 have HW1 := Lib.hid hw1
 obtain ⟨⟨x0, x1, x2⟩, _⟩ := blk3' hx1
 have hlx := blk_lt hx1
 have HL := Lib.hid (show (str t).size ≤ 9223372036854775806 from by
  have h1 := rtext_len hr
  rw [ht] at h1
  simp only at h1
  rw [str_size]
  omega)
 clear h hr hT hb1 hx hANS hx1 hw1 ht
 go_enter Tryz.func13, Tryz.ntmps13
 go_wp2_with fail
 rw [HW1.out]
 refine HTX.out.mono ?_
 rintro e1 w2 ⟨rfl, hb2⟩
 have H2 := Lib.hid (⟨H.out.2.2.1.trans (hb2.mono H.out.2.2.1.size), (hb2.block _ hlx).trans H.out.2.2.2.2.2⟩ : _ ∧ _)
 clear hb2 x0 x1 x2 hlx
 cases ok
 ·have HQ : Hid (ANS = false) := Lib.hid (by rw [← H.out.2.2.2.2.1]; rfl)
  go_wp2_with fail
  go_ret
  exact ⟨by rw [HQ.out]; rfl, H2.out.1⟩
 ·have hA := H.out.2.2.2.2.1
  rw [Bool.true_and] at hA
  have HA := Lib.hid hA
  have HPA := Lib.hid (rparse_any (str t) w2 (H.out.2.1.below H2.out.1) HL.out)
  rw [H.out.2.2.2.1] at HPA
  clear hA
  go_wp2_with fail
  refine HPA.out.mono ?_
  rintro e1 w3 ⟨pA', pc', nA', nc', rfl, hp3, hn3, hb3⟩
  simp only at hp3 hn3
  obtain ⟨w4, hw4⟩ : ∃ w', w3.alloc (.cells #[.string x.name, .slice pA' x.params.length pc', .slice nA' x.nodes.length nc'] 26) = w' := ⟨_, rfl⟩
  have hb4 : Below w3.heap.size w3 w4 := hw4 ▸ (Below.refl _ _).alloc (Nat.le_refl _) _
  have hy4 : w4.heap[w3.heap.size]? = some (.cells #[.string x.name, .slice pA' x.params.length pc', .slice nA' x.nodes.length nc'] 26 (0, 0)) := hw4 ▸ heap_alloc_new _ _
  have hb34 := H2.out.1.trans ((hb3.trans (hb4.mono hb3.size)).mono H2.out.1.size)
  have hx4 := ((hb3.trans (hb4.mono hb3.size)).block _ (blk_lt H2.out.2)).trans H2.out.2
  have HS := Lib.hid (rsame_any x r pA' pc' nA' nc' pA pc nA nc w4 (RecF.below ⟨hp3, hn3⟩ hb4) (H.out.1.below hb34))
  have HB4 := Lib.hid hb34
  have HW4 := Lib.hid hw4
  obtain ⟨⟨x0, x1, x2⟩, _⟩ := blk3' hx4
  obtain ⟨⟨y0, y1, y2⟩, _⟩ := blk3' hy4
  have hlx := blk_lt hx4
  have hly := blk_lt hy4
  clear hp3 hn3 hb3 hb4 hw4 hy4 hx4 hb34
  by_cases he : e = 0
  ·subst he
   have HQ : Hid (ANS = decide (x = r)) := Lib.hid (by rw [← HA.out]; rfl)
   clear HA
   go_upto_region 5 with fail
   rw [HW4.out]
   go_wp2_with fail
   refine HS.out.mono ?_
   rintro e1 w5 ⟨rfl, hb5⟩
   have HB5 := Lib.hid (HB4.out.trans (hb5.mono HB4.out.size))
   clear hb5
   go_wp2_with fail
   go_ret
   exact ⟨by rw [HQ.out]; rfl, HB5.out⟩
  ·have t1 := beqf he
   have HQ : Hid (ANS = false) := Lib.hid (by rw [← HA.out, t1]; rfl)
   clear he
   go_wp2_with fail
   rw [HW4.out]
   go_ret
   exact ⟨by rw [HQ.out]; rfl, HB4.out⟩
end Go.Proofs.YtgcfjkfipkfijaaGreatDoor
namespace Go.Proofs.YtgcfjkfipkfijaaGreatDoor
open Go Go.RowKit Go.Lib
set_option maxHeartbeats 8000000 in
set_option maxRecDepth 100000 in
theorem rprint_any {P : Nat → Prop} (r : Rec) (pA : Option Addr) (pc : Nat) (nA : Option Addr) (nc : Nat) (w : World) (h : RecF P w r pA pc nA nc) (hr : RecN r) (hT : Tabs w) :
  Calls Tryz.prog 14 #[recV r pA pc nA nc] w fun e w' => e = .returned (.string (printR r)) ∧ Below w.heap.size w w' := by
 obtain ⟨w1, hw1⟩ : ∃ w1, w.alloc (.cells #[.string r.name, .slice pA r.params.length pc, .slice nA r.nodes.length nc] 26) = w1 := ⟨_, rfl⟩
 have hb1 : Below w.heap.size w w1 := hw1 ▸ (Below.refl _ _).alloc (Nat.le_refl _) _
 have hx1 : w1.heap[w.heap.size]? = some (.cells #[.string r.name, .slice pA r.params.length pc, .slice nA r.nodes.length nc] 26 (0, 0)) := hw1 ▸ heap_alloc_new _ _
 have HMY := Lib.hid (rmay_any r pA pc nA nc w1 (h.below hb1) hr (hT.below hb1))
 have HTX := Lib.hid (fun W (hW : Below w.heap.size w W) => rtext_any r pA pc nA nc W (h.below hW).prms (h.below hW).nds hr (hT.below hW))
 obtain ⟨q, hq⟩ : ∃ x, mayR r = x := ⟨_, rfl⟩
 obtain ⟨ANS, hANS⟩ : ∃ x, printR r = x := ⟨_, rfl⟩
 rw [hANS]
 unfold printR at hANS
 rw [hq] at HMY hANS
 have H := Lib.hid (⟨hb1, hx1, hANS⟩ : _ ∧ _ ∧ _)
 have HW1 := Lib.hid hw1
 obtain ⟨⟨x0, x1, x2⟩, _⟩ := blk3' hx1
 have hlx := blk_lt hx1
 clear h hr hT hb1 hANS hx1 hw1 hq
 go_enter Tryz.func14, Tryz.ntmps14
 go_wp2_with fail
 rw [HW1.out]
 refine HMY.out.mono ?_
 rintro e1 w2 ⟨rfl, hb2⟩
 have H2 := Lib.hid (⟨H.out.1.trans (hb2.mono H.out.1.size), (hb2.block _ hlx).trans H.out.2.1⟩ : _ ∧ _)
 clear hb2 x0 x1 x2 hlx
 cases q
 ·have HQ : Hid (ANS = ⟨#[]⟩) := Lib.hid (by rw [← H.out.2.2]; rfl)
  go_wp2_with fail
  go_ret
  exact ⟨by rw [HQ.out]; rfl, H2.out.1⟩
 ·have HQ : Hid (ANS = str (textP r).1) := Lib.hid (by rw [← H.out.2.2]; rfl)
  obtain ⟨⟨x0, x1, x2⟩, _⟩ := blk3' H2.out.2
  have hlx := blk_lt H2.out.2
  go_wp2_with fail
  refine (HTX.out _ H2.out.1).mono ?_
  rintro e1 w3 ⟨rfl, hb3⟩
  have H3 := Lib.hid (H2.out.1.trans (hb3.mono H2.out.1.size))
  clear hb3 x0 x1 x2 hlx
  go_wp2_with fail
  go_ret
  exact ⟨by rw [HQ.out]; rfl, H3.out⟩
theorem one_str {P : Nat → Prop} {w : World} {k : Nat} {s : ByteArray} {t : TypeId} (hk : ¬ P k) (h : w.heap[k]? = some (.cells #[.string s] t (0, 0))) : RowF Kind.str P w (some ⟨k, 0, none⟩) 1 [s] :=
 ⟨Nat.le_refl _, fun M hM => ⟨by show 1 ≤ _; decide, fun _ => ⟨⟨k, 0, none⟩, rfl, fun hc => hk (hM _ hc), blk_lt h, fun i hi => by
  match i, hi with
  | 0, _ => exact ⟨[.string s], rfl, fun j u hu => by
    match j, hu with
    | 0, hu => exact (blk_cell h 0).trans hu⟩⟩⟩⟩
structure NmW (w : World) (wr : World) (B : Option Addr) (b : Nat) (os : List ByteArray) : Prop where
 row : GrowB Kind.str 9 w.heap.size (fun k => k < w.heap.size) wr B os.length b (os.map sE)
 below : Below w.heap.size w wr
theorem NmW.step {w wr w' : World} {B : Option Addr} {b : Nat} {os : List ByteArray} (h : NmW w wr B b os) (hb : Below wr.heap.size wr w') : NmW w w' B b os := ⟨h.row.below hb, h.below.trans (hb.mono h.below.size)⟩
theorem NmW.post {w wr : World} {B : Option Addr} {b : Nat} {os : List ByteArray} (h : NmW w wr B b os) : RowF Kind.str (fun k => k < w.heap.size) wr B b os := by
 have h1 := h.row.out (fun _ h => h) (fun q hq => by obtain ⟨p, _, rfl⟩ := List.mem_map.1 hq; rfl)
 rwa [List.map_map, show ((fun q : ByteArray × List Value => q.1) ∘ sE) = id from rfl, List.map_id] at h1
theorem NmW.push {w wr w6 : World} {B : Option Addr} {b g cap : Nat} {os : List ByteArray} {s : ByteArray} (h : NmW w wr B b os) (hG : GrowB Kind.str 9 w.heap.size (fun k => k < w.heap.size) w6 (some ⟨g, 0, none⟩) (os.length + 1) cap (os.map sE ++ [(s, [.string s])])) (hS : Same (Value.slice B os.length b).ownBlock.toList wr w6) : NmW w w6 (some ⟨g, 0, none⟩) cap (os ++ [s]) := by
 have hl : (os ++ [s]).length = os.length + 1 := by simp
 refine ⟨by rw [hl, List.map_append]; exact hG, ?_⟩
 exact ((Same.of_below (M := []) h.below).trans hS (fun x hx => .inr (h.row.blk x (by simpa using hx)).1)).below
theorem NmW.next {w wr w6 : World} {B V : Option Addr} {b g cap v N : Nat} {os ls : List ByteArray} {s : ByteArray} {ob : Obj} (h : NmW w wr B b os) (hrow : RowF Kind.str (fun k => (Value.slice B os.length b).ownBlock = some k) wr V v ls) (hne : ∀ k, (Value.slice B os.length b).ownBlock = some k → k ≠ N) (hbox : wr.heap[N]? = some ob)
  (hG : GrowB Kind.str 9 w.heap.size (fun k => k < w.heap.size) w6 (some ⟨g, 0, none⟩) (os.length + 1) cap (os.map sE ++ [(s, [.string s])])) (hS : Same (Value.slice B os.length b).ownBlock.toList wr w6) (hg : (Value.slice B os.length b).ownBlock = some g ∨ wr.heap.size < g) :
  NmW w w6 (some ⟨g, 0, none⟩) cap (os ++ [s]) ∧ RowF Kind.str (fun k => (Value.slice (some ⟨g, 0, none⟩) (os ++ [s]).length cap).ownBlock = some k) w6 V v ls ∧ (∀ k, (Value.slice (some ⟨g, 0, none⟩) (os ++ [s]).length cap).ownBlock = some k → k ≠ N) ∧ w6.heap[N]? = some ob := by
 have hN := blk_lt hbox
 have hg' : ∀ k, (Value.slice (some ⟨g, 0, none⟩) (os ++ [s]).length cap).ownBlock = some k → k = g := fun k hk => by have : some g = some k := hk; exact (Option.some.inj this).symm
 refine ⟨h.push hG hS, ?_, fun k hk => ?_, hS.heap (fun hc => hne N (by simpa using hc) rfl) hbox⟩
 ·have h1 := (hrow.more (Q := fun k => (Value.slice B os.length b).ownBlock = some k ∨ k = g) (fun k hk => hk.elim .inl (fun e => by
   subst e
   exact hg.elim .inl (fun h => .inr (Nat.le_of_lt h))))).keep hS (fun k hk => .inl (by simpa using hk))
  exact h1.more (fun k hk => .inl (.inr (hg' k hk)))
 ·obtain rfl := hg' k hk
  exact hg.elim (hne k) (fun h => by omega)
def NamedPost (l : List ByteArray) (w : World) (e : Ending) (w' : World) : Prop := ∃ B b, e = .returned (.slice B l.length b) ∧ RowF Kind.str (fun k => k < w.heap.size) w' B b l ∧ Below w.heap.size w w'
set_option maxHeartbeats 8000000 in
set_option maxRecDepth 100000 in
theorem named_any {P : Nat → Prop} (r : Rec) (pA : Option Addr) (pc : Nat) (nA : Option Addr) (nc : Nat) (kind : Int) (w : World) (h : RecF P w r pA pc nA nc) (hr : RecN r) (hT : Tabs w) :
  Calls Tryz.prog 45 #[recV r pA pc nA nc, .int .i64 kind] w (NamedPost (namedR r kind) w) := by
 obtain ⟨w1, hw1⟩ : ∃ w1, w.alloc (.cells #[.string r.name, .slice pA r.params.length pc, .slice nA r.nodes.length nc] 26) = w1 := ⟨_, rfl⟩
 have hb1 : Below w.heap.size w w1 := hw1 ▸ (Below.refl _ _).alloc (Nat.le_refl _) _
 have hx1 : w1.heap[w.heap.size]? = some (.cells #[.string r.name, .slice pA r.params.length pc, .slice nA r.nodes.length nc] 26 (0, 0)) := hw1 ▸ heap_alloc_new _ _
 have HMY := Lib.hid (rmay_any r pA pc nA nc w1 (h.below hb1) hr (hT.below hb1))
 obtain ⟨q, hq⟩ : ∃ x, mayR r = x := ⟨_, rfl⟩
 obtain ⟨ANS, hANS⟩ : ∃ x, namedR r kind = x := ⟨_, rfl⟩
 rw [hANS]
 unfold namedR at hANS
 rw [hq] at HMY hANS
 have hnm := (h.nds.2 [] (by simp)).1
 have hnc := h.nds.1
 have h24 : q = true → r.nodes.length ≤ 24 := fun hq' => by
  have h1 := ((mayR_iff r).1 (hq.trans hq')).1
  unfold textP at h1
  split at h1
  ·exact absurd h1 (by decide)
  ·omega
 have H := Lib.hid (⟨hb1, hx1, hANS, h.nds.more (Q := fun k => w.heap.size ≤ k) (fun k hk => .inr hk), hr, h24⟩ : _ ∧ _ ∧ _ ∧ _ ∧ _ ∧ _)
 have HW1 := Lib.hid hw1
 obtain ⟨⟨x0, x1, x2⟩, _⟩ := blk3' hx1
 have hlx := blk_lt hx1
 clear h hr hT hb1 hANS hx1 hw1 hq h24
 go_enter Tryz.func45, Tryz.ntmps45
 go_wp2_with fail
 rw [HW1.out]
 refine HMY.out.mono ?_
 rintro e1 w2 ⟨rfl, hb2⟩
 have H2 := Lib.hid (⟨H.out.1.trans (hb2.mono H.out.1.size), (hb2.block _ hlx).trans H.out.2.1⟩ : _ ∧ _)
 clear hb2 x0 x1 x2 hlx
 cases q
 ·have HQ : Hid (ANS = []) := Lib.hid (by rw [← H.out.2.2.1]; rfl)
  go_wp2_with fail
  refine bodyPost_ret (v := .slice none 0 0) (by simp [results, Tryz.results45, go_sem, *]) rfl ?_
  rw [HQ.out]
  exact ⟨none, 0, rfl, RowF.nil _ _ _ _ _, H2.out.1⟩
 have HQ : Hid ((r.nodes.flatMap (nmsOf kind)).foldl addU [] = ANS ∧ r.nodes.length ≤ 24) := Lib.hid ⟨by rw [← H.out.2.2.1]; rfl, H.out.2.2.2.2.2 rfl⟩
 obtain ⟨⟨x0, x1, x2⟩, _⟩ := blk3' H2.out.2
 have hlx := blk_lt H2.out.2
 go_wp2_with fail
 go_loopg [5, 17] (r.nodes.length + 1) (fun q s5 s17 wr => ∃ (i : Nat) (B : Option Addr) (b : Nat) (os : List ByteArray), s5 = .slice B os.length b ∧ s17 = .int .i64 (i : Nat) ∧ i ≤ r.nodes.length ∧ r.nodes.length - i < q ∧ ((r.nodes.drop i).flatMap (nmsOf kind)).foldl addU os = ANS ∧ os.length ≤ i * 65536 ∧ NmW w wr B b os)
 case atStart => exact ⟨0, none, 0, [], rfl, rfl, Nat.zero_le _, by omega, HQ.out.1, Nat.zero_le _, ⟨GrowB.nil _ _ _ _ _, H2.out.1⟩⟩
 case round =>
  obtain ⟨i, B, b, os, rfl, rfl, hin, hiq, hans, hol, hW⟩ := hrel
  obtain ⟨gk, rfl⟩ : ∃ k, gk = k + 1 := ⟨gk - 1, by omega⟩
  clear x0 x1 x2 hlx
  by_cases hlt : i < r.nodes.length
  ·have hR := H.out.2.2.2.1.below hW.below
   obtain ⟨ad, rfl⟩ := row_ad hR i hlt
   obtain ⟨kA, kc, uA, uc, gA, gc, eA, ec, ⟨c0, c1, c2, c3, c4, c5, c6, c7, c8⟩, _, hur, _, _, hnl⟩ := nd_some hR i hlt
   have hN := H.out.2.2.2.2.1.nd _ (List.getElem_mem hlt)
   obtain ⟨x, hx⟩ : ∃ x, r.nodes[i] = x := ⟨_, rfl⟩
   have hdr : (r.nodes.drop i).flatMap (nmsOf kind) = nmsOf kind x ++ (r.nodes.drop (i + 1)).flatMap (nmsOf kind) := by rw [List.drop_eq_getElem_cons hlt, List.flatMap_cons, hx]
   rw [hdr, List.foldl_append] at hans
   rw [hx] at c0 c1 c2 c3 c4 c5 c6 c7 c8 hur hN
   have hul := hN.units
   have hxu := hur.1
   have hxm := (hur.2 [] (by simp)).1
   obtain ⟨ls, hls⟩ : ∃ ls, (if x.kind = 3 then [x.name] else x.units) = ls := ⟨_, rfl⟩
   have hnm : nmsOf kind x = if x.kind = kind then ls else [] := by unfold nmsOf; rw [hls]
   rw [hnm] at hans
   have hll : ls.length ≤ 65536 := by
    rw [← hls]
    split
    ·simp
    ·exact hul
   obtain ⟨w3, hw3⟩ : ∃ w', wr.alloc (.cells #[.int .i64 x.kind, .slice kA x.kids.length kc, .slice uA x.units.length uc, .string x.name, .slice gA x.args.length gc, .int .i64 x.e.op, .int .i64 x.e.n, .string x.e.name, .slice eA x.e.kids.length ec] 43) = w' := ⟨_, rfl⟩
   have hb3 : Below wr.heap.size wr w3 := hw3 ▸ (Below.refl _ _).alloc (Nat.le_refl _) _
   have hy3 : w3.heap[wr.heap.size]? = some (.cells #[.int .i64 x.kind, .slice kA x.kids.length kc, .slice uA x.units.length uc, .string x.name, .slice gA x.args.length gc, .int .i64 x.e.op, .int .i64 x.e.n, .string x.e.name, .slice eA x.e.kids.length ec] 43 (0, 0)) := hw3 ▸ heap_alloc_new _ _
   have HW3 := Lib.hid (⟨hW.step hb3, hur.below hb3, hW.row.blk⟩ : _ ∧ _ ∧ _)
   have HA := Lib.hid (⟨hans, hls, hol, hll⟩ : _ ∧ _ ∧ _ ∧ _)
   have HEQ := Lib.hid hw3
   obtain ⟨⟨y0, _, y2, y3, _⟩, _⟩ := nd9 hy3
   obtain ⟨N, hNN⟩ : ∃ N, wr.heap.size = N := ⟨_, rfl⟩
   have hly := blk_lt hy3
   rw [hNN] at y0 y2 y3 hly hy3
   have HY3 := Lib.hid (⟨hy3, hNN⟩ : _ ∧ _)
   clear hans hls hol hll hW hb3 hy3 hw3 hnm hdr hx hN hur hR
   have hz0 : (0 : Int) ≤ i := by omega
   go_upto_region 8 with fail
   rw [HEQ.out]
   obtain ⟨t, ht⟩ : ∃ t, (x.kind == 3) = t := ⟨_, rfl⟩
   have HT := Lib.hid ht
   go_upto_if 25 with fail
   go_cut [8] (fun s8 wx => ∃ (V : Option Addr) (v : Nat), s8 = .slice V ls.length v ∧ RowF Kind.str (fun k => (Value.slice B os.length b).ownBlock = some k) wx V v ls ∧ Below w3.heap.size w3 wx)
   case first =>
    have hrow := HW3.out.2.1
    have hbk := HW3.out.2.2
    cases t
    ·have hls : x.units = ls := by rw [← HA.out.2.1, if_neg (by have := HT.out; simpa using this)]
     have HU := Lib.hid (⟨hls, hrow.more (Q := fun k => (Value.slice B os.length b).ownBlock = some k) (fun k hk => .inl (hbk k hk).1)⟩ : _ ∧ _)
     clear hrow hbk hls
     go_wp2_with fail
     go_meet
     obtain ⟨h1, h2⟩ := HU.out
     subst h1
     exact ⟨uA, uc, rfl, h2, Below.refl _ _⟩
    ·have hls : [x.name] = ls := by rw [← HA.out.2.1, if_pos (by have := HT.out; simpa using this)]
     have HU := Lib.hid (⟨hls, fun k hk => Nat.lt_trans (hbk k hk).2 (by have := hNN; omega)⟩ : [x.name] = ls ∧ ∀ k, (Value.slice B os.length b).ownBlock = some k → k < w3.heap.size)
     clear hrow hbk hls
     go_wp2_with fail
     go_meet
     obtain ⟨h1, h2⟩ := HU.out
     subst h1
     exact ⟨some ⟨w3.heap.size, 0, none⟩, 1, rfl, one_str (fun hc => by have := h2 _ hc; omega) (heap_alloc_new _ _), (Below.refl _ _).alloc (Nat.le_refl _) _⟩
   case rest =>
    obtain ⟨V, v, rfl, hrow, hb4⟩ := hcut
    have hW4 := HW3.out.1.step hb4
    have hvm := (hrow.2 [] (by simp)).1
    have hvc := hrow.1
    obtain ⟨OS, hOS⟩ : ∃ l, (if x.kind = kind then ls else []).foldl addU os = l := ⟨_, rfl⟩
    have hA := HA.out.1
    rw [hOS] at hA
    have HB := Lib.hid (⟨hW4, hrow, hOS, hA, fun k hk => by rw [← HY3.out.2]; exact Nat.ne_of_lt (HW3.out.2.2 k hk).2, (hb4.block _ hly).trans HY3.out.1⟩ : _ ∧ _ ∧ _ ∧ _ ∧ (∀ k, (Value.slice B os.length b).ownBlock = some k → k ≠ N) ∧ _)
    have hol := HA.out.2.2.1
    have hll := HA.out.2.2.2
    clear hW4 hrow hOS hA hb4 hly y0 y2 y3 ht HT
    go_wp2_with fail
    go_loopg [5, 31] (ls.length + 1) (fun q s5 s31 wz => ∃ (j : Nat) (B' : Option Addr) (b' : Nat) (os' : List ByteArray), s5 = .slice B' os'.length b' ∧ s31 = .int .i64 (j : Nat) ∧ j ≤ ls.length ∧ ls.length - j < q ∧ (if x.kind = kind then ls.drop j else []).foldl addU os' = OS ∧ os'.length ≤ i * 65536 + j ∧ NmW w wz B' b' os' ∧ RowF Kind.str (fun k => (Value.slice B' os'.length b').ownBlock = some k) wz V v ls ∧ (∀ k, (Value.slice B' os'.length b').ownBlock = some k → k ≠ N) ∧
     wz.heap[N]? = some (.cells #[.int .i64 x.kind, .slice kA x.kids.length kc, .slice uA x.units.length uc, .string x.name, .slice gA x.args.length gc, .int .i64 x.e.op, .int .i64 x.e.n, .string x.e.name, .slice eA x.e.kids.length ec] 43 (0, 0)))
    case atStart => exact ⟨0, B, b, os, rfl, rfl, Nat.zero_le _, by omega, HB.out.2.2.1, Nat.le_trans hol (Nat.le_add_right _ _), HB.out.1, HB.out.2.1, HB.out.2.2.2.2.1, HB.out.2.2.2.2.2⟩
    case round =>
     obtain ⟨j, B', b', os', rfl, rfl, hjl, hjq, hos, hol', hW', hrow', hne', hbox⟩ := hrel
     obtain ⟨gj, rfl⟩ : ∃ k, gk = k + 1 := ⟨gk - 1, by omega⟩
     have hz0 : (0 : Int) ≤ j := by omega
     by_cases hjlt : j < ls.length
     ·obtain ⟨vd, rfl, c0, hvl⟩ := cell_some hrow' j hjlt
      obtain ⟨⟨y0, _, _, _, _⟩, _⟩ := nd9 hbox
      have hly := blk_lt hbox
      obtain ⟨u, hu⟩ : ∃ u, ls[j] = u := ⟨_, rfl⟩
      have hdr : ls.drop j = u :: ls.drop (j + 1) := by rw [List.drop_eq_getElem_cons hjlt, hu]
      rw [hu] at c0
      rw [hdr] at hos
      have HR := Lib.hid (⟨hos, hW', hrow', hne', hbox⟩ : _ ∧ _ ∧ _ ∧ _ ∧ _)
      have hjz : (j : Int) < ls.length := by omega
      clear hos hW' hrow' hne' hbox hdr hu
      by_cases hk : x.kind = kind
      ·have hkb : (x.kind == kind) = true := beq_iff_eq.2 hk
       have hos := HR.out.1
       rw [if_pos hk, List.foldl_cons] at hos
       have HC := Lib.hid (contains_any HR.out.2.1.row.strs b' u)
       unfold addU at hos
       have HK := Lib.hid hk
       clear hk
       cases hin : inB u os' with
       | true =>
        rw [hin] at HC hos
        rw [if_pos rfl] at hos
        have HS := Lib.hid hos
        clear hos hin
        go_wp2_with fail
        refine HC.out.mono ?_
        rintro e w5 ⟨rfl, rfl⟩
        go_wp2_with fail
        go_roundg gj
        case measure => omega
        case rel => exact ⟨j + 1, B', b', os', rfl, by go_num, by omega, by omega, by rw [if_pos HK.out]; exact HS.out, by omega, HR.out.2.1, HR.out.2.2.1, HR.out.2.2.2.1, HR.out.2.2.2.2⟩
       | false =>
        rw [hin] at HC hos
        rw [if_neg (by decide)] at hos
        have HS := Lib.hid hos
        clear hos hin
        go_wp2_with fail
        refine HC.out.mono ?_
        rintro e w5 ⟨rfl, rfl⟩
        go_wp2_with (at_builtin; refine Hid.out ?_)
        refine Lib.hid ?_
        have hq24 := HQ.out.2
        refine wpList_grow (by rfl) _ _ _ (by rfl) (.string ⟨#[]⟩) 16 Tryz.underlying37 info_str (by rfl) (by decide) (by rfl) HR.out.2.1.row u #[.string u] _ (by rfl) (by rfl) (by simp [Value.oneCell']) (Av.str _ _ _) (by unfold maxLen; omega) (by omega) HR.out.2.1.below.size ?_
        intro g2 cap w6 hG6 hS6 hg6
        have H6 := Lib.hid (HR.out.2.1.next HR.out.2.2.1 HR.out.2.2.2.1 HR.out.2.2.2.2 hG6 hS6 hg6.2.2)
        clear hG6 hS6 hg6 hq24
        go_wp2_with fail
        go_roundg gj
        case measure => omega
        case rel => exact ⟨j + 1, some ⟨g2, 0, none⟩, cap, os' ++ [u], by rw [List.length_append]; rfl, by go_num, by omega, by omega, by rw [if_pos HK.out]; exact HS.out, by rw [List.length_append, List.length_cons, List.length_nil]; omega, H6.out.1, H6.out.2.1, H6.out.2.2.1, H6.out.2.2.2⟩
      ·have hkb : (x.kind == kind) = false := beqf hk
       have hos := HR.out.1
       rw [if_neg hk] at hos
       have HS := Lib.hid (⟨hos, hk⟩ : _ ∧ _)
       clear hos hk
       go_wp2_with fail
       go_roundg gj
       case measure => omega
       case rel => exact ⟨j + 1, B', b', os', rfl, by go_num, by omega, by omega, by rw [if_neg HS.out.2]; exact HS.out.1, by omega, HR.out.2.1, HR.out.2.2.1, HR.out.2.2.2.1, HR.out.2.2.2.2⟩
     ·obtain rfl : j = ls.length := by omega
      have hE : os' = OS := by rw [List.drop_length, ite_self] at hos; exact hos
      subst hE
      have HE := Lib.hid hW'
      clear hos hW' hrow' hne' hbox
      go_wp2_with fail
      go_roundg gk
      case measure => omega
      case rel => exact ⟨i + 1, B', b', os', rfl, by go_num, by omega, by omega, HB.out.2.2.2.1, by omega, HE.out⟩
  ·obtain rfl : i = r.nodes.length := by omega
   rw [List.drop_length] at hans
   have hA : os = ANS := hans
   subst hA
   have HW := Lib.hid hW
   clear hans hW hol
   go_wp2_with fail
   refine bodyPost_ret (v := .slice B os.length b) (by simp [results, Tryz.results45, go_sem, *]) rfl ?_
   exact ⟨B, b, rfl, HW.out.post, HW.out.below⟩
end Go.Proofs.YtgcfjkfipkfijaaGreatDoor
namespace Go.Proofs.YtgcfjkfipkfijaaGreatDoor
open Go Go.RowKit Go.Lib
def awakeT : ByteArray := ⟨#[114, 101, 99, 105, 112, 101, 32, 114, 32, 112, 97, 114, 97, 109, 32, 113, 32, 58, 61, 32, 53, 32, 115, 99, 97, 108, 101, 100, 59, 32, 123, 32, 117, 110, 105, 116, 32, 117, 32, 123, 32, 112, 104, 97, 115, 101, 32, 104, 101, 97, 116, 40, 116, 32, 61, 32, 113, 32, 42, 32, 50, 41, 59, 32, 125, 32, 105, 102, 32, 113, 32, 62, 32, 51, 32, 123, 32, 112, 97, 114, 32, 123, 32, 125, 32, 125, 32, 125]⟩
def exN (s : List UInt8) : Ex := .mk 1 0 ⟨s.toArray⟩ []
def exI (n : Int) : Ex := .mk 0 n ⟨#[]⟩ []
def awakeR : Rec := ⟨⟨#[114]⟩, [⟨⟨#[113]⟩, 5, true⟩], [⟨0, [1, 3], [], ⟨#[]⟩, [], zEx⟩, ⟨2, [2], [⟨#[117]⟩], ⟨#[]⟩, [], zEx⟩, ⟨3, [], [], ⟨#[104, 101, 97, 116]⟩, [⟨⟨#[116]⟩, .mk 6 0 ⟨#[]⟩ [exN [113], exI 2]⟩], zEx⟩,
 ⟨4, [4, 6], [], ⟨#[]⟩, [], .mk 11 0 ⟨#[]⟩ [exN [113], exI 3]⟩, ⟨0, [5], [], ⟨#[]⟩, [], zEx⟩, ⟨1, [], [], ⟨#[]⟩, [], zEx⟩, ⟨0, [], [], ⟨#[]⟩, [], zEx⟩]⟩
theorem awake_read : recP awakeT = (awakeR, 0, 0) := by kernel_rfl
theorem awake_ok2 : (textP awakeR).2 = true := by kernel_rfl
theorem awake_len : (textP awakeR).1.length = 109 := by kernel_rfl
theorem awake_back : recP (str (textP awakeR).1) = (awakeR, 0, 0) := by kernel_rfl
theorem awake_may2 : mayR awakeR = true := by
 rw [mayR_iff, awake_back]
 exact ⟨awake_ok2, rfl, rfl⟩
theorem awake_units : namedR awakeR 2 = [⟨#[117]⟩] := by
 unfold namedR
 rw [if_pos awake_may2]
 kernel_rfl
theorem ex_leaf {o n : Int} {s : ByteArray} (h1 : Fits o) (h2 : Fits n) (h3 : s.size ≤ 140737488355328) : ExOk (.mk o n s []) := .mk h1 h2 h3 (fun k hk => by simp at hk)
theorem ex_pair {o : Int} {a b : Ex} (h1 : Fits o) (ha : ExOk a) (hb : ExOk b) : ExOk (.mk o 0 ⟨#[]⟩ [a, b]) := .mk h1 (by decide) (by decide) (fun k hk => by
 simp only [List.mem_cons, List.not_mem_nil, or_false] at hk
 rcases hk with rfl | rfl
 ·exact ha
 ·exact hb)
theorem nd_plain {k : Int} {ks : List Int} {us : List ByteArray} {nm : ByteArray} {al : List Ar} {e : Ex} (h1 : nm.size ≤ 65536) (h2 : us.length ≤ 65536) (h3 : us.all (fun u => decide (u.size ≤ 65536)) = true) (h4 : ∀ a, a ∈ al → a.name.size ≤ 65536 ∧ ExOk a.e) (h5 : ExOk e) : NdN ⟨k, ks, us, nm, al, e⟩ :=
 ⟨h1, h2, fun u hu => of_decide_eq_true (List.all_eq_true.1 h3 u hu), h4, h5⟩
theorem zEx_ok : ExOk zEx := ⟨⟨by decide, by decide⟩, ⟨by decide, by decide⟩, Nat.zero_le _, fun k hk => by simp at hk⟩
theorem awake_n : RecN awakeR := by
 refine ⟨by decide, fun p hp => ?_, fun x hx => ?_⟩
 ·simp only [awakeR, List.mem_cons, List.not_mem_nil, or_false] at hp
  subst hp
  exact ⟨by decide, by decide, by decide⟩
 ·simp only [awakeR, List.mem_cons, List.not_mem_nil, or_false] at hx
  have h0 : ∀ a : Ar, a ∈ ([] : List Ar) → a.name.size ≤ 65536 ∧ ExOk a.e := fun a ha => by simp at ha
  rcases hx with rfl | rfl | rfl | rfl | rfl | rfl | rfl
  ·exact nd_plain (by decide) (by decide) (by decide) h0 zEx_ok
  ·exact nd_plain (by decide) (by decide) (by decide) h0 zEx_ok
  ·refine nd_plain (by decide) (by decide) (by decide) (fun a ha => ?_) zEx_ok
   simp only [List.mem_cons, List.not_mem_nil, or_false] at ha
   subst ha
   exact ⟨by decide, ex_pair (by decide) (ex_leaf (by decide) (by decide) (by decide)) (ex_leaf (by decide) (by decide) (by decide))⟩
  ·exact nd_plain (by decide) (by decide) (by decide) h0 (ex_pair (by decide) (ex_leaf (by decide) (by decide) (by decide)) (ex_leaf (by decide) (by decide) (by decide)))
  ·exact nd_plain (by decide) (by decide) (by decide) h0 zEx_ok
  ·exact nd_plain (by decide) (by decide) (by decide) h0 zEx_ok
  ·exact nd_plain (by decide) (by decide) (by decide) h0 zEx_ok
set_option maxHeartbeats 4000000 in
theorem runits_any {P : Nat → Prop} (r : Rec) (pA : Option Addr) (pc : Nat) (nA : Option Addr) (nc : Nat) (w : World) (h : RecF P w r pA pc nA nc) (hr : RecN r) (hT : Tabs w) :
  Calls Tryz.prog 19 #[recV r pA pc nA nc] w (NamedPost (namedR r 2) w) := by
 have hb1 : Below w.heap.size w (w.alloc (.cells #[.string r.name, .slice pA r.params.length pc, .slice nA r.nodes.length nc] 26)) := (Below.refl _ _).alloc (Nat.le_refl _) _
 have HN := Lib.hid (named_any r pA pc nA nc 2 _ (h.below hb1) hr (hT.below hb1))
 have HB := Lib.hid hb1
 clear h hr hT hb1
 go_enter Tryz.func19, Tryz.ntmps19
 go_wp2_with fail
 refine HN.out.mono ?_
 rintro e w2 ⟨B, b, rfl, h2, hb2⟩
 have H2 := Lib.hid (⟨h2.more (Q := fun k => k < w.heap.size) (fun k hk => .inl (Nat.lt_of_lt_of_le hk HB.out.size)), HB.out.trans (hb2.mono HB.out.size)⟩ : _ ∧ _)
 clear h2 hb2
 go_wp2_with fail
 go_ret
 exact ⟨B, b, rfl, H2.out.1, H2.out.2⟩
set_option maxHeartbeats 8000000 in
set_option maxRecDepth 100000 in
theorem rawake_any (w : World) (hT : Tabs w) : Calls Tryz.prog 8 #[] w fun r w' => r = .returned (.bool true) ∧ Below w.heap.size w w' := by
 have h := rparse_any awakeT w hT (by decide)
 rw [awake_read] at h
 have HPAR : Hid (Calls Tryz.prog 9 #[.string awakeT] w fun r w' => ∃ pA pc nA nc, r = .returned (.tuple #[.agg #[.string ⟨#[114]⟩, .slice pA 1 pc, .slice nA 7 nc], .int .i64 0, .int .i64 0]) ∧ RecF (fun k => k < w.heap.size) w' awakeR pA pc nA nc ∧ Below w.heap.size w w') :=
  Lib.hid (h.mono (fun r w' ⟨pA, pc, nA, nc, e, h1, h2, h3⟩ => ⟨pA, pc, nA, nc, e, ⟨h1, h2⟩, h3⟩))
 have HT := Lib.hid hT
 clear h hT
 go_enter Tryz.func8, Tryz.ntmps8
 go_wp2_with fail
 refine HPAR.out.mono ?_
 rintro r w1 ⟨pA, pc, nA, nc, rfl, hR1, hb1⟩
 obtain ⟨ad, rfl⟩ := row_ad hR1.nds 0 (by decide)
 have H1 := Lib.hid (⟨hR1, hb1⟩ : _ ∧ _)
 clear hR1 hb1
 obtain ⟨w2, hw2⟩ : ∃ w2, w1.alloc (.cells #[.string ⟨#[114]⟩, .slice pA 1 pc, .slice (some ad) 7 nc] 26) = w2 := ⟨_, rfl⟩
 have hb2 : Below w1.heap.size w1 w2 := hw2 ▸ (Below.refl _ _).alloc (Nat.le_refl _) _
 have hx2 : w2.heap[w1.heap.size]? = some (.cells #[.string ⟨#[114]⟩, .slice pA 1 pc, .slice (some ad) 7 nc] 26 (0, 0)) := hw2 ▸ heap_alloc_new _ _
 have hR2 := H1.out.1.below hb2
 obtain ⟨kA, kc, uA, uc, gA, gc, eA, ec, ⟨c0, c1, _⟩, hkr, _, _, _, hnl⟩ := nd_some hR2.nds 3 (by decide)
 obtain ⟨kd, rfl, k1, hkl⟩ := int_some hkr 1 (by decide)
 have hB2 : Below w.heap.size w w2 := H1.out.2.trans (hb2.mono H1.out.2.size)
 have H2 := Lib.hid (⟨hR2, hB2, hx2, HT.out.below hB2⟩ : _ ∧ _ ∧ _ ∧ _)
 have HW2 := Lib.hid hw2
 replace c0 : w2.cell? ⟨ad.block, ad.off + 27, none⟩ = some (.int .i64 4) := c0
 replace c1 : w2.cell? ⟨ad.block, ad.off + 28, none⟩ = some (.slice (some kd) 2 kc) := c1
 replace k1 : w2.cell? ⟨kd.block, kd.off + 1, none⟩ = some (.int .i64 6) := k1
 replace hnl : ad.block < w2.heap.size := hnl
 have hkc : 2 ≤ kc := hkr.1
 have hnc : 7 ≤ nc := hR2.nds.1
 obtain ⟨⟨x0, x1, x2⟩, _⟩ := blk3' hx2
 have hlx := blk_lt hx2
 clear hkr hR2 hb2 hB2 hx2 hw2
 go_upto_region 2 with fail
 rw [HW2.out]
 go_wp2_with fail
 refine (rmay_any awakeR pA pc (some ad) nc w2 H2.out.1 awake_n H2.out.2.2.2).mono ?_
 rw [awake_may2]
 rintro r w3 ⟨rfl, hb3⟩
 have H3 := Lib.hid (⟨H2.out.1.below hb3, H2.out.2.1.trans (hb3.mono H2.out.2.1.size), (hb3.block _ hlx).trans H2.out.2.2.1, H2.out.2.2.2.below hb3⟩ : _ ∧ _ ∧ _ ∧ _)
 clear hb3 x0 x1 x2 hlx c0 c1 k1 hnl hkl
 obtain ⟨⟨x0, x1, x2⟩, _⟩ := blk3' H3.out.2.2.1
 have hlx := blk_lt H3.out.2.2.1
 go_wp2_with fail
 refine (runits_any awakeR pA pc (some ad) nc w3 H3.out.1 awake_n H3.out.2.2.2).mono ?_
 rw [awake_units]
 rintro r w4 ⟨B, b, rfl, _, hb4⟩
 have H4 := Lib.hid (⟨H3.out.1.below hb4, H3.out.2.1.trans (hb4.mono H3.out.2.1.size), (hb4.block _ hlx).trans H3.out.2.2.1, H3.out.2.2.2.below hb4⟩ : _ ∧ _ ∧ _ ∧ _)
 clear hb4 x0 x1 x2 hlx
 obtain ⟨⟨x0, x1, x2⟩, _⟩ := blk3' H4.out.2.2.1
 have hlx := blk_lt H4.out.2.2.1
 go_wp2_with fail
 refine (rprint_any awakeR pA pc (some ad) nc w4 H4.out.1 awake_n H4.out.2.2.2).mono ?_
 rintro r w5 ⟨rfl, hb5⟩
 have hz : (printR awakeR).size = 109 := by
  unfold printR
  rw [if_pos awake_may2, str_size, awake_len]
 have H5 := Lib.hid (H4.out.2.1.trans (hb5.mono H4.out.2.1.size))
 clear hb5 x0 x1 x2 hlx
 go_wp2_with fail
 go_ret
 exact ⟨rfl, H5.out⟩
end Go.Proofs.YtgcfjkfipkfijaaGreatDoor
namespace Go.Proofs.YtgcfjkfipkfijaaGreatDoor
open Go Go.RowKit Go.Lib
def bE (c : UInt8) : Int × List Value := ((c.toNat : Int), [.int .u8 (c.toNat : Int)])
theorem info_u8 : (Tryz.prog.info? 5).map (fun i => (i.zero, i.size, i.bytes)) = some (some (.int .u8 0), 1, 1) := by kernel_rfl
theorem flat_bE : ∀ l : List UInt8, (l.map bE).flatMap (·.2) = l.map (fun c => Value.int .u8 (c.toNat : Int))
 | [] => rfl
 | y :: ys => by rw [List.map_cons, List.flatMap_cons, flat_bE ys]; rfl
theorem conv_nil (w : World) : (convert 108 9 (.slice none 0 0)).run Tryz.prog w = .ok (.string ⟨#[]⟩) w := by kernel_rfl
set_option maxRecDepth 100000 in
theorem grow_str {T : TypeId} {b0 : Nat} {P : Nat → Prop} {w : World} {B : Option Addr} {n b : Nat} {l : List UInt8} (h : GrowB (Kind.int .u8) T b0 P w B n b (l.map bE)) : (convert 108 9 (.slice B n b)).run Tryz.prog w = .ok (.string ⟨l.toArray⟩) w := by
 have hl := h.len
 rw [List.length_map] at hl
 subst hl
 rcases h.own.2 with ⟨h', h0⟩ | ⟨g, cap, cur, hv, hg, hh, h1, h2, h3, h4⟩
 ·obtain rfl : l = [] := List.eq_nil_of_length_eq_zero (by omega)
  injection h' with e1 e2 e3
  subst e1 e3
  exact conv_nil w
 ·injection hv with e1 _ e3
  subst e1 e3
  refine run_convert_bytes_back w _ _ _ ⟨g, 0, none⟩ _ l under_u8s under_u8 under_str (fun j hj => ?_)
  have hc := h.own.cells (g := g) rfl j (.int .u8 (l[j].toNat : Int)) (by rw [flat_bE, List.getElem?_map, List.getElem?_eq_getElem hj]; rfl)
  exact hc
set_option maxHeartbeats 4000000 in
set_option maxRecDepth 100000 in
theorem yfold_any (s : ByteArray) (w : World) (hs : s.size ≤ 100000) :
  Calls Tryz.prog 92 #[.string s] w fun e w' => e = .returned (.string (foldP s)) ∧ Below w.heap.size w w' := by
 have hsd := size_data s
 go_enter Tryz.func92, Tryz.ntmps92
 go_wp2_with fail
 go_loopg [3, 4] (s.size + 1) (fun q s3 s4 wr => ∃ (i : Nat) (B : Option Addr) (b : Nat), s3 = .slice B i b ∧ s4 = .int .i64 (i : Nat) ∧ i ≤ s.size ∧ s.size - i < q ∧ GrowB (Kind.int .u8) 5 w.heap.size (fun k => k < w.heap.size) wr B i b (((s.data.toList.take i).map low).map bE) ∧ Below w.heap.size w wr)
 case atStart => exact ⟨0, none, 0, rfl, rfl, Nat.zero_le _, by omega, GrowB.nil _ _ _ _ _, Below.refl _ _⟩
 case round =>
  obtain ⟨i, B, b, rfl, rfl, hin, hiq, hG, hb⟩ := hrel
  obtain ⟨gk, rfl⟩ : ∃ k, gk = k + 1 := ⟨gk - 1, by omega⟩
  have hi0 : (0 : Int) ≤ i := by omega
  by_cases hlt : i < s.size
  ·have hiz : (i : Int) < s.size := by omega
   obtain ⟨c, hc⟩ : ∃ c, s[i] = c := ⟨_, rfl⟩
   have htk : (s.data.toList.take (i + 1)).map low = (s.data.toList.take i).map low ++ [low c] := by
    rw [List.take_succ_eq_append_getElem (by omega), List.map_append, ← hc]
    rfl
   have hlow := low_int c
   have HG := Lib.hid (⟨hG, hb, htk⟩ : _ ∧ _ ∧ _)
   have hcl := c.toNat_lt
   clear hG hb htk
   obtain ⟨z, hz⟩ : ∃ z : Int, ((low c).toNat : Int) = z := ⟨_, rfl⟩
   have fin : ∀ (g cap : Nat) (w6 : World), GrowB (Kind.int .u8) 5 w.heap.size (fun k => k < w.heap.size) w6 (some ⟨g, 0, none⟩) (i + 1) cap (((s.data.toList.take i).map low).map bE ++ [(z, [.int .u8 z])]) → Same (Value.slice B i b).ownBlock.toList wr w6 →
     GrowB (Kind.int .u8) 5 w.heap.size (fun k => k < w.heap.size) w6 (some ⟨g, 0, none⟩) (i + 1) cap (((s.data.toList.take (i + 1)).map low).map bE) ∧ Below w.heap.size w w6 := fun g cap w6 h1 h2 =>
    ⟨by rw [HG.out.2.2, List.map_append, List.map_cons, List.map_nil]; unfold bE; rw [hz]; exact h1, ((Same.of_below (M := []) HG.out.2.1).trans h2 (fun x hx => .inr (HG.out.1.blk x (by simpa using hx)).1)).below⟩
   have HF := Lib.hid fin
   clear fin
   by_cases h1 : 65 ≤ (c.toNat : Int) ∧ (c.toNat : Int) ≤ 90
   ·have hz2 : z = (c.toNat : Int) + 32 := by rw [← hz, hlow, if_pos h1]
    obtain ⟨h1, h2⟩ := h1
    clear hlow hz
    subst hz2
    go_wp2_with (at_builtin; refine Hid.out ?_)
    refine Lib.hid ?_
    refine wpList_grow (by rfl) _ _ _ (by rfl) (.int .u8 0) 1 Tryz.underlying108 info_u8 (by rfl) (by decide) (by rfl) HG.out.1 ((c.toNat : Int) + 32) #[.int .u8 ((c.toNat : Int) + 32)] _ (by rfl) (by rfl) (by simp [Value.oneCell']) (fun _ _ => rfl) (by unfold maxLen; omega) (by omega) HG.out.2.1.size ?_
    intro g2 cap w6 hG6 hS6 hg6
    have H6 := Lib.hid (HF.out g2 cap w6 hG6 hS6)
    clear hG6 hS6 hg6
    go_wp2_with fail
    go_roundg gk
    case measure => omega
    case rel => exact ⟨i + 1, some ⟨g2, 0, none⟩, cap, rfl, by go_num, by omega, by omega, H6.out.1, H6.out.2⟩
   ·have hz2 : z = (c.toNat : Int) := by rw [← hz, hlow, if_neg h1]
    clear hlow hz
    subst hz2
    have key : ¬ 65 ≤ (c.toNat : Int) ∨ 65 ≤ (c.toNat : Int) ∧ ¬ (c.toNat : Int) ≤ 90 := by omega
    clear h1
    rcases key with h1 | ⟨h1, h2⟩
    all_goals
     go_wp2_with (at_builtin; refine Hid.out ?_)
     refine Lib.hid ?_
     refine wpList_grow (by rfl) _ _ _ (by rfl) (.int .u8 0) 1 Tryz.underlying108 info_u8 (by rfl) (by decide) (by rfl) HG.out.1 (c.toNat : Int) #[.int .u8 (c.toNat : Int)] _ (by rfl) (by rfl) (by simp [Value.oneCell']) (fun _ _ => rfl) (by unfold maxLen; omega) (by omega) HG.out.2.1.size ?_
     intro g2 cap w6 hG6 hS6 hg6
     have H6 := Lib.hid (HF.out g2 cap w6 hG6 hS6)
     clear hG6 hS6 hg6
     go_wp2_with fail
     go_roundg gk
     case measure => omega
     case rel => exact ⟨i + 1, some ⟨g2, 0, none⟩, cap, rfl, by go_num, by omega, by omega, H6.out.1, H6.out.2⟩
  ·obtain rfl : i = s.size := by omega
   have hback := grow_str hG
   have HB := Lib.hid hb
   rw [List.take_of_length_le (by omega)] at hback
   have HBK := Lib.hid hback
   clear hG hb hback
   have hback := HBK.out
   go_wp2_with fail
   go_ret
   exact ⟨rfl, HB.out⟩
def placeP (x : ByteArray) : List ByteArray → Int → Int
 | [], _ => -1
 | y :: l, i => if y = x then i else placeP x l (i + 1)
theorem place_in (x : ByteArray) : ∀ (l : List ByteArray) (i : Int), 0 ≤ i → (0 ≤ placeP x l i ↔ inB x l = true)
 | [], i, _ => by simp [placeP, inB]
 | y :: l, i, h => by
  have := place_in x l (i + 1) (by omega)
  unfold placeP
  unfold inB at this ⊢
  rw [List.any_cons, Bool.or_eq_true, seq_iff]
  split
  ·rename_i e; exact ⟨fun _ => .inl e, fun _ => h⟩
  ·rename_i e; exact ⟨fun h => .inr (this.1 h), fun h => this.2 (h.resolve_left e)⟩
set_option maxHeartbeats 4000000 in
set_option maxRecDepth 100000 in
theorem yplace_any {w : World} {a : Option Addr} {ss : List ByteArray} (h : StrR w a ss) (c : Nat) (x : ByteArray) :
  Calls Tryz.prog 62 #[.slice a ss.length c, .string x] w fun e w' => ∃ z : Int, e = .returned (.int .i64 z) ∧ (0 ≤ z ↔ inB x ss = true) ∧ Below w.heap.size w w' := by
 obtain ⟨ANS, hANS⟩ : ∃ z, placeP x ss 0 = z := ⟨_, rfl⟩
 have hiff := place_in x ss 0 (Int.le_refl _)
 rw [hANS] at hiff
 have H := Lib.hid (⟨h, hiff, hANS⟩ : _ ∧ _ ∧ _)
 have hmax := h.1
 clear h hiff hANS
 go_enter Tryz.func62, Tryz.ntmps62
 go_wp2_with fail
 go_loopg [5] (ss.length + 1) (fun q s5 wr => ∃ i : Nat, s5 = .int .i64 (i : Nat) ∧ i ≤ ss.length ∧ ss.length - i < q ∧ placeP x (ss.drop i) i = ANS ∧ wr = w)
 case atStart => exact ⟨0, rfl, Nat.zero_le _, by omega, H.out.2.2, rfl⟩
 case round =>
  obtain ⟨i, rfl, hin, hiq, hp, rfl⟩ := hrel
  obtain ⟨gk, rfl⟩ : ∃ k, gk = k + 1 := ⟨gk - 1, by omega⟩
  have hi0 : (0 : Int) ≤ i := by omega
  by_cases hlt : i < ss.length
  ·have hiz : (i : Int) < ss.length := by omega
   obtain ⟨b, off, rfl, hcell⟩ := H.out.1.2 (by omega)
   have c0 := hcell i hlt
   have hbl := World.block_lt_of_cell? _ _ c0
   rw [List.getD_eq_getElem?_getD, List.getElem?_eq_getElem hlt] at c0
   simp only [Option.getD_some] at c0
   have hdr : ss.drop i = ss[i] :: ss.drop (i + 1) := List.drop_eq_getElem_cons hlt
   obtain ⟨y, hy⟩ : ∃ y, ss[i] = y := ⟨_, rfl⟩
   rw [hdr, placeP, hy] at hp
   rw [hy] at c0
   clear hcell hdr hy
   by_cases hxy : y = x
   ·subst hxy
    rw [if_pos rfl] at hp
    have HP := Lib.hid hp
    clear hp
    go_wp2_with fail
    go_ret
    exact ⟨i, rfl, by rw [HP.out]; exact H.out.2.1, Below.refl _ _⟩
   ·obtain ⟨t1, t3⟩ := str_ne hxy
    rw [if_neg hxy] at hp
    have HP := Lib.hid hp
    clear hp hxy
    go_wp2_with fail
    go_roundg gk
    case measure => omega
    case rel => exact ⟨i + 1, by go_num, by omega, by omega, by have := HP.out; rwa [show (i : Int) + 1 = ((i + 1 : Nat) : Int) by omega] at this, rfl⟩
  ·obtain rfl : i = ss.length := by omega
   rw [List.drop_length, placeP] at hp
   have HP := Lib.hid hp
   clear hp
   go_wp2_with fail
   go_ret
   exact ⟨-1, rfl, by rw [HP.out]; exact H.out.2.1, Below.refl _ _⟩
end Go.Proofs.YtgcfjkfipkfijaaGreatDoor
