/- Part 22 of the proof of ragain_card; no conditions. -/
import Derived.Test.YtgcfjkfipkfijaaGreatDoorAg01
import Derived.Test.YtgcfjkfipkfijaaGreatDoorAg21
set_option maxRecDepth 100000
set_option maxHeartbeats 8000000
namespace Go.Proofs.YtgcfjkfipkfijaaGreatDoor
open Go Go.RowKit Go.Lib Tryz
structure sx (x : Nd) : Prop where
 ex : tK x.e
 arg : ∀ a, a ∈ x.args → tK a.e
theorem vp {xs : List Ar} (h : ∀ a, a ∈ xs → a.name.size ≤ 65536 ∧ ch a.e) {i : Nat} (hi : i ≤ 5) : (Lib.join ((xs.take i).map dN) [44, 32]).length ≤ 400000 := by
 have h1 := il [44, 32] 70000 ((xs.take i).map dN) (fun x hx => by
  obtain ⟨a, ha, rfl⟩ := List.mem_map.1 hx
  exact qj (h a (List.mem_of_mem_take ha)))
 have h2 : ((xs.take i).map dN).length ≤ 5 := by rw [U_]; exact d_ (List.length_take_le _ _) hi
 have h3 := Nat.mul_le_mul_right (70000 + 2) h2
 simp only [P_, b_] at h1
 omega
theorem sy {P l nA nc wB} (hN : ∀ x, x ∈ l → g9 x) (hX : ∀ x, x ∈ l → sx x) (hR : aw nM P wB nA nc l) {m} (hm : m < l.length) (hk3 : l[m].kind = 3) (ind L w) (hi : ind.length ≤ 1000) (hbw : Below wB.heap.size wB w) :
  Calls prog 72 #[.slice nA l.length nc, .int .i64 m, .string (str ind), .int .i64 L] w fun r w' => r = .returned (.tuple #[.string (str (ep l[m] ind)), .int .i64 L]) ∧ Below w.heap.size w w' := by
 obtain ⟨ad, _, rfl, _, _⟩ := hR.at_ m hm
 obtain ⟨kA, kc, uA, uc, gA, gc, eA, ec, ⟨c0, c1, c2, c3, c4, c5, c6, c7, c8⟩, hkr, hur, hgr, her, hbl⟩ := da hR m hm
 have hlc := hR.1
 have hml := (hR.2 [] (by simp)).1
 obtain ⟨x, hx⟩ := nm_ (l[m])
 have hxN : g9 x := hx ▸ hN _ (g_ hm)
 have hxX : sx x := hx ▸ hX _ (g_ hm)
 rw [hx] at c0 c1 c2 c3 c4 c5 c6 c7 c8 hkr hur hgr her hk3 ⊢
 replace c0 := (hbw.cell (p := ad.add (m * 9)) hbl).trans c0
 replace c1 := (hbw.cell (p := ⟨(ad.add (m * 9)).block, (ad.add (m * 9)).off + 1, none⟩) hbl).trans c1
 replace c2 := (hbw.cell (p := ⟨(ad.add (m * 9)).block, (ad.add (m * 9)).off + 2, none⟩) hbl).trans c2
 replace c3 := (hbw.cell (p := ⟨(ad.add (m * 9)).block, (ad.add (m * 9)).off + 3, none⟩) hbl).trans c3
 replace c4 := (hbw.cell (p := ⟨(ad.add (m * 9)).block, (ad.add (m * 9)).off + 4, none⟩) hbl).trans c4
 replace c5 := (hbw.cell (p := ⟨(ad.add (m * 9)).block, (ad.add (m * 9)).off + 5, none⟩) hbl).trans c5
 replace c6 := (hbw.cell (p := ⟨(ad.add (m * 9)).block, (ad.add (m * 9)).off + 6, none⟩) hbl).trans c6
 replace c7 := (hbw.cell (p := ⟨(ad.add (m * 9)).block, (ad.add (m * 9)).off + 7, none⟩) hbl).trans c7
 replace c8 := (hbw.cell (p := ⟨(ad.add (m * 9)).block, (ad.add (m * 9)).off + 8, none⟩) hbl).trans c8
 replace hbl := Y_ hbl hbw.size
 have hmz : (m : Int) < l.length := by omega
 have hm0 : (0 : Int) ≤ m := by omega
 obtain ⟨xd, xk, xu, xn, xa, xe⟩ := x
 simp only at c0 c1 c2 c3 c4 c5 c6 c7 c8 hk3 hgr
 subst hk3
 obtain ⟨F, hF⟩ := nm_ (ep ⟨3, xk, xu, xn, xa, xe⟩ ind)
 rw [hF]
 unfold ep at hF
 simp only at hF
 have hnl := hxN.name
 simp only at hnl
 obtain ⟨a1, h1⟩ := nm_ (ind ++ [112, 104, 97, 115, 101, 32])
 rw [h1] at hF
 obtain ⟨a2, h2⟩ := nm_ (a1 ++ dh xn)
 rw [h2] at hF
 obtain ⟨a3, h3⟩ := nm_ (a2 ++ [40])
 rw [h3] at hF
 have l1 : a1.length = ind.length + 6 := by rw [← h1]; simp
 have l2 : a2.length = a1.length + xn.size := by rw [← h2, O_, bm]
 have l3 : a3.length = a2.length + 1 := by rw [← h3]; simp
 have e1 : ∀ W, (Op.stringOp .add (str ind) ⟨#[112, 104, 97, 115, 101, 32]⟩).run prog W = .ok (.string (str a1)) W := fun W => by rw [← h1]; exact aq ind [112, 104, 97, 115, 101, 32] (by simp; omega) W
 have e2 : ∀ W, (Op.stringOp .add (str a1) xn).run prog W = .ok (.string (str a2)) W := fun W => by
  have := aq a1 (dh xn) (by rw [bm]; omega) W
  rw [h2] at this
  rwa [show str (dh xn) = xn from bT xn] at this
 have e3 : ∀ W, (Op.stringOp .add (str a2) ⟨#[40]⟩).run prog W = .ok (.string (str a3)) W := fun W => by rw [← h3]; exact aq a2 [40] (by simp; omega) W
 have ha3 : a3.length ≤ 70000 := by omega
 have hal := hxN.arg
 have hax := hxX.arg
 simp only at hal hax
 have hgc := hgr.1
 have hgm := (hgr.2 [] (by simp)).1
 obtain ⟨JF, hJF⟩ : ∃ JF : Nat → List UInt8, ∀ i, Lib.join ((xa.take i).map dN) [44, 32] = JF i := ⟨_, fun _ => rfl⟩
 have HJF := hid hJF
 have H := hm_ hgr hal hax hbw hF
 clear hJF hkr hur hgr her hR hx hxN hxX hN hX hal hax hbw hF h1 h2 h3 l1 l2 l3 hnl
 go_enter func72, ntmps72
 go_upto_region 2 with fail
 obtain ⟨w2, hw2⟩ := nm_ (w.alloc (.cells #[.int .i64 3, .slice kA xk.length kc, .slice uA xu.length uc, .string xn, .slice gA xa.length gc, .int .i64 xe.op, .int .i64 xe.n, .string xe.name, .slice eA xe.kids.length ec] 43))
 obtain ⟨K, hKK⟩ := nm_ w.heap.size
 have HX : Hid (w2.heap[K]? = some (.cells #[.int .i64 3, .slice kA xk.length kc, .slice uA xu.length uc, .string xn, .slice gA xa.length gc, .int .i64 xe.op, .int .i64 xe.n, .string xe.name, .slice eA xe.kids.length ec] 43 (0, 0)) ∧ Below w.heap.size w w2) := hid (by
  rw [← hw2, ← hKK]; exact ⟨I_ _ _, (J_ _ _).alloc le_ _⟩)
 rw [hw2, hKK]
 have hkl := ab HX.out.1
 obtain ⟨b0, b1, b2, b3, b4, b5, b6, b7, b8⟩ := gZ HX.out.1
 clear c0 c1 c2 c3 c4 c5 c6 c7 c8 hbl hw2
 go_wp2_with fail
 clear b0 b1 b2 b3 b4 b5 b6 b7 b8 e1 e2 e3
 go_loopg [12, 13] 7 (fun q s12 s13 wr => ∃ i : Nat, s12 = .string (str (a3 ++ JF i)) ∧ s13 = .int .i64 (i : Nat) ∧ i ≤ xa.length ∧ i ≤ 5 ∧ 5 - i < q ∧ Below w2.heap.size w2 wr)
 case atStart => exact ⟨0, by rw [← HJF.out 0]; simp [Lib.join_nil], rfl, h_ _, by omega, by omega, J_ _ _⟩
 case round =>
  obtain ⟨i, rfl, rfl, hin, hi5, hiq, hb⟩ := hrel
  obtain ⟨gk, rfl⟩ := pk_ gk 1 (by omega)
  have hbx := (hb.block K hkl).trans HX.out.1
  have hkl2 := ab hbx
  obtain ⟨b0, b1, b2, b3, b4, b5, b6, b7, b8⟩ := gZ hbx
  have hjl := vp (i := i) H.out.2.1 hi5
  have hi0 : (0 : Int) ≤ i := by omega
  obtain ⟨J, hJ0⟩ := nm_ (JF i)
  have hJ : Lib.join ((xa.take i).map dN) [44, 32] = J := (HJF.out i).trans hJ0
  rw [hJ] at hjl
  rw [hJ0]
  by_cases hlt : i < xa.length ∧ i ≤ 4
  ·obtain ⟨hlt, hi4⟩ := hlt
   have hiz : (i : Int) < xa.length := by omega
   have hi4z : (i : Int) ≤ 4 := by omega
   have hrow : aw iX P wr gA gc xa := H.out.1.below (H.out.2.2.2.1.trans ((HX.out.2.trans (hb.mono HX.out.2.size)).mono H.out.2.2.2.1.size))
   obtain ⟨gd, _, rfl, _, _⟩ := hrow.at_ i hlt
   obtain ⟨A, ac, d0, d1, d2, d3, d4, hex, hdl⟩ := fy hrow i hlt
   obtain ⟨a, ha⟩ := nm_ (xa[i])
   have hain : a ∈ xa := ha ▸ g_ hlt
   have hsz := H.out.2.1 a hain
   have hsx := H.out.2.2.1 a hain
   have htk : xa.take (i + 1) = xa.take i ++ [a] := by rw [Z_ hlt, ha]
   rw [ha] at d0 d1 d2 d3 d4 hex
   have hpl := eW hsz.2
   have HPR := hid (fun W (hW : Below wr.heap.size wr W) => mC a.e A ac W ((hex.2 [] (by simp)).keep (Same.of_below hW)) hex.1 hsz.2 hsx)
   obtain ⟨nm, o, n', nm', ks⟩ := a
   simp only [Ex.op, Ex.n, Ex.name, Ex.kids] at d0 d1 d2 d3 d4
   obtain ⟨pt, hpt⟩ := nm_ (dz (.mk o n' nm' ks))
   simp only [hpt] at HPR hpl
   have hnm : nm.size ≤ 65536 := hsz.1
   have hsep : Lib.join ((xa.take (i + 1)).map dN) [44, 32] = J ++ ((if i = 0 then [] else [44, 32]) ++ (dh nm ++ [32, 61, 32] ++ pt)) := by
    have he : ((xa.take i).map dN).isEmpty = decide (i = 0) := by
     cases i with
     | zero => simp
     | succ i => cases xa with | nil => simp at hlt | cons _ _ => simp
    rw [htk, f_, List.map_cons, List.map_nil, n9, hJ, he]
    have hat : dN ⟨nm, .mk o n' nm' ks⟩ = dh nm ++ [32, 61, 32] ++ pt := by unfold dN; rw [hpt]
    rw [hat]
    by_cases h0 : i = 0
    ·simp [h0]
    ·simp [h0]
   by_cases hz : i = 0
   ·have hzp : ¬ (0 : Int) < i := by omega
    rw [M_ hz, List.nil_append] at hsep
    obtain ⟨s0, hs0⟩ := nm_ (a3 ++ J)
    obtain ⟨s1, hs1⟩ := nm_ (s0 ++ dh nm)
    obtain ⟨s2, hs2⟩ := nm_ (s1 ++ [32, 61, 32])
    have l0 : s0.length = a3.length + J.length := by rw [← hs0, O_]
    have l1 : s1.length = s0.length + nm.size := by rw [← hs1, O_, bm]
    have l2 : s2.length = s1.length + 3 := by rw [← hs2]; simp
    have hfin : s2 ++ pt = a3 ++ JF (i + 1) := by rw [← HJF.out, hsep, ← hs2, ← hs1, ← hs0]; simp
    have e1 : ∀ W, (Op.stringOp .add (str s0) nm).run prog W = .ok (.string (str s1)) W := fun W => by
     have := aq s0 (dh nm) (by rw [bm]; omega) W
     rw [hs1] at this
     rwa [show str (dh nm) = nm from bT nm] at this
    have e2 : ∀ W, (Op.stringOp .add (str s1) ⟨#[32, 61, 32]⟩).run prog W = .ok (.string (str s2)) W := fun W => by rw [← hs2]; exact aq s1 [32, 61, 32] (by simp; omega) W
    have e3 : ∀ W, (Op.stringOp .add (str s2) (str pt)).run prog W = .ok (.string (str (s2 ++ pt))) W := fun W => aq s2 pt (by omega) W
    have HE := hid hfin
    have HBR := hj_ hb hbx
    rw [hs0]
    clear hb hbx hrow hex ha hain hsz hsx htk hpt hsep hJ hJ0 hs0 hs1 hs2 l0 l1 l2 hfin hjl hpl hz
    go_wp2_with fail
    go_region_with (go_at_call 104; refine (HPR.out _ ?_).mono ?_; (first | exact J_ _ _ | exact (J_ _ _).drew); rintro r w9 ⟨rfl, hb9⟩; have H9 : Hid (Below w2.heap.size w2 w9) := hid (by first | exact HBR.out.1.trans (hb9.mono HBR.out.1.size) | exact HBR.out.1.drew.trans (hb9.mono HBR.out.1.size)); have hb90 : Below wr.heap.size wr w9 := (by first | exact hb9 | exact (J_ _ _).drew.trans hb9); have hbx9 := (hb90.block K hkl2).trans HBR.out.2; obtain ⟨y0, y1, y2, y3, y4, y5, y6, y7, y8⟩ := gZ hbx9; have hl9 := ab hbx9; have z0 := (hb90.cell (p := gd.add (i * 5)) hdl).trans d0; have hdl9 := Y_ hdl hb90.size; clear hb9 hb90 hbx9)
    all_goals
     rw [HE.out]
     go_wp2_with fail
     go_roundg gk
     case measure => omega
     case rel => exact ⟨i + 1, rfl, by go_num, by omega, by omega, by omega, H9.out⟩
   ·rw [K_ hz] at hsep
    have hzp : (0 : Int) < i := by omega
    obtain ⟨s9, hs9⟩ := nm_ (a3 ++ J)
    obtain ⟨s0, hs0⟩ := nm_ (s9 ++ [44, 32])
    obtain ⟨s1, hs1⟩ := nm_ (s0 ++ dh nm)
    obtain ⟨s2, hs2⟩ := nm_ (s1 ++ [32, 61, 32])
    have l9 : s9.length = a3.length + J.length := by rw [← hs9, O_]
    have l0 : s0.length = s9.length + 2 := by rw [← hs0]; simp
    have l1 : s1.length = s0.length + nm.size := by rw [← hs1, O_, bm]
    have l2 : s2.length = s1.length + 3 := by rw [← hs2]; simp
    have hfin : s2 ++ pt = a3 ++ JF (i + 1) := by rw [← HJF.out, hsep, ← hs2, ← hs1, ← hs0, ← hs9]; simp
    have e0 : ∀ W, (Op.stringOp .add (str s9) ⟨#[44, 32]⟩).run prog W = .ok (.string (str s0)) W := fun W => by rw [← hs0]; exact aq s9 [44, 32] (by simp; omega) W
    have e1 : ∀ W, (Op.stringOp .add (str s0) nm).run prog W = .ok (.string (str s1)) W := fun W => by
     have := aq s0 (dh nm) (by rw [bm]; omega) W
     rw [hs1] at this
     rwa [show str (dh nm) = nm from bT nm] at this
    have e2 : ∀ W, (Op.stringOp .add (str s1) ⟨#[32, 61, 32]⟩).run prog W = .ok (.string (str s2)) W := fun W => by rw [← hs2]; exact aq s1 [32, 61, 32] (by simp; omega) W
    have e3 : ∀ W, (Op.stringOp .add (str s2) (str pt)).run prog W = .ok (.string (str (s2 ++ pt))) W := fun W => aq s2 pt (by omega) W
    have HE := hid hfin
    have HBR := hj_ hb hbx
    rw [hs9]
    clear hb hbx hrow hex ha hain hsz hsx htk hpt hsep hJ hJ0 hs0 hs1 hs2 hs9 l0 l1 l2 l9 hfin hjl hpl hz
    go_wp2_with fail
    go_region_with (go_at_call 104; refine (HPR.out _ ?_).mono ?_; (first | exact J_ _ _ | exact (J_ _ _).drew); rintro r w9 ⟨rfl, hb9⟩; have H9 : Hid (Below w2.heap.size w2 w9) := hid (by first | exact HBR.out.1.trans (hb9.mono HBR.out.1.size) | exact HBR.out.1.drew.trans (hb9.mono HBR.out.1.size)); have hb90 : Below wr.heap.size wr w9 := (by first | exact hb9 | exact (J_ _ _).drew.trans hb9); have hbx9 := (hb90.block K hkl2).trans HBR.out.2; obtain ⟨y0, y1, y2, y3, y4, y5, y6, y7, y8⟩ := gZ hbx9; have hl9 := ab hbx9; have z0 := (hb90.cell (p := gd.add (i * 5)) hdl).trans d0; have hdl9 := Y_ hdl hb90.size; clear hb9 hb90 hbx9)
    all_goals
     rw [HE.out]
     go_wp2_with fail
     go_roundg gk
     case measure => omega
     case rel => exact ⟨i + 1, rfl, by go_num, by omega, by omega, by omega, H9.out⟩
  ·have hJT : J = eF xa := by
    rw [← hJ]
    unfold eF
    by_cases h5 : i = 5
    ·rw [h5]
    ·rw [List.take_of_length_le (by omega), List.take_of_length_le (by omega)]
   have hF := H.out.2.2.2.2
   rw [← hJT] at hF
   obtain ⟨s0, hs0⟩ := nm_ (a3 ++ J)
   rw [hs0] at hF
   have l0 : s0.length = a3.length + J.length := by rw [← hs0, O_]
   have e1 : ∀ W, (Op.stringOp .add (str s0) ⟨#[41, 59, 10]⟩).run prog W = .ok (.string (str F)) W := fun W => by rw [← hF]; exact aq s0 [41, 59, 10] (by simp; omega) W
   have HBR := hid (HX.out.2.trans (hb.mono HX.out.2.size))
   rw [hs0]
   have key : xa.length ≤ i ∨ i < xa.length ∧ ¬ i ≤ 4 := by omega
   clear hb hbx hJ hJ0 hs0 l0 hF hJT hjl hlt
   rcases key with h1 | ⟨h1, h2⟩
   ·have hiz : ¬ (i : Int) < xa.length := by omega
    go_wp2_with fail
    refine L_ (v := .tuple #[.string (str F), .int .i64 L]) (by simp [results, results72, go_sem, *]) rfl ?_
    exact ⟨rfl, by rw [hKK] at HBR; exact hKK ▸ HBR.out⟩
   ·have hiz : (i : Int) < xa.length := by omega
    have hi4z : ¬ (i : Int) ≤ 4 := by omega
    go_wp2_with fail
    refine L_ (v := .tuple #[.string (str F), .int .i64 L]) (by simp [results, results72, go_sem, *]) rfl ?_
    exact ⟨rfl, by rw [hKK] at HBR; exact hKK ▸ HBR.out⟩
theorem vq {x} (h : g9 x) {i} (hi : i ≤ 6) : (Lib.join ((x.units.take i).map dh) [44, 32]).length ≤ 400000 := by
 have h1 := il [44, 32] 65536 ((x.units.take i).map dh) (fun y hy => by
  obtain ⟨u, hu, rfl⟩ := List.mem_map.1 hy
  rw [bm]
  exact h.unit u (List.mem_of_mem_take hu))
 have h2 : ((x.units.take i).map dh).length ≤ 6 := by rw [U_]; exact d_ (List.length_take_le _ _) hi
 have h3 := Nat.mul_le_mul_right (65536 + 2) h2
 simp only [P_, b_] at h1
 omega
theorem xK {P l nA nc wB f} (hN : ∀ x, x ∈ l → g9 x) (hX : ∀ x, x ∈ l → sx x) (hR : aw nM P wB nA nc l) (hK : zu l nA nc wB f) {m} (hm : m < l.length) (hk3 : l[m].kind ≠ 3) (hk4 : l[m].kind ≠ 4) (hd : (l.length : Int) - m ≤ f + 1) (ind L w) (hi : ind.length + 2 * (f + 1) ≤ 1000) (hL0 : 0 ≤ L) (hL3 : L ≤ 30) (hbw : Below wB.heap.size wB w) :
  Calls prog 72 #[.slice nA l.length nc, .int .i64 m, .string (str ind), .int .i64 L] w fun r w' => r = .returned (.tuple #[.string (str (ind ++ la l[m] ++ [32, 123, 10] ++ (aL l (cH l f) m (ind ++ [32, 32]) L).1 ++ ind ++ [125, 10])), .int .i64 (aL l (cH l f) m (ind ++ [32, 32]) L).2]) ∧ Below w.heap.size w w' := by
 have hpk := eS (L := L) hN (f := f) (k := m) (ind := ind ++ [32, 32]) (by simp; omega) hL0
 have HKC := hid (fun W (hW : Below wB.heap.size wB W) => hK m (ind ++ [32, 32]) L W (by omega) (by omega) (by omega) (by simp; omega) hL0 hL3 hW)
 obtain ⟨⟨pt, pl⟩, hp⟩ : ∃ p, aL l (cH l f) m (ind ++ [32, 32]) L = p := ⟨_, rfl⟩
 rw [hp] at hpk HKC ⊢
 simp only at HKC ⊢
 have hpl : (pt.length : Int) + 8589934592 * pz pl ≤ 0 + 8589934592 * L := hpk.1
 have hpz := qw pl
 obtain ⟨ad, _, rfl, _, _⟩ := hR.at_ m hm
 obtain ⟨kA, kc, uA, uc, gA, gc, eA, ec, ⟨c0, c1, c2, c3, c4, c5, c6, c7, c8⟩, hkr, hur, hgr, her, hbl⟩ := da hR m hm
 have hlc := hR.1
 have hml := (hR.2 [] (by simp)).1
 obtain ⟨x, hx⟩ := nm_ (l[m])
 have hxN : g9 x := hx ▸ hN _ (g_ hm)
 have hxX : sx x := hx ▸ hX _ (g_ hm)
 rw [hx] at c0 c1 c2 c3 c4 c5 c6 c7 c8 hkr hur hgr her hk3 hk4 ⊢
 replace c0 := (hbw.cell (p := ad.add (m * 9)) hbl).trans c0
 replace c1 := (hbw.cell (p := ⟨(ad.add (m * 9)).block, (ad.add (m * 9)).off + 1, none⟩) hbl).trans c1
 replace c2 := (hbw.cell (p := ⟨(ad.add (m * 9)).block, (ad.add (m * 9)).off + 2, none⟩) hbl).trans c2
 replace c3 := (hbw.cell (p := ⟨(ad.add (m * 9)).block, (ad.add (m * 9)).off + 3, none⟩) hbl).trans c3
 replace c4 := (hbw.cell (p := ⟨(ad.add (m * 9)).block, (ad.add (m * 9)).off + 4, none⟩) hbl).trans c4
 replace c5 := (hbw.cell (p := ⟨(ad.add (m * 9)).block, (ad.add (m * 9)).off + 5, none⟩) hbl).trans c5
 replace c6 := (hbw.cell (p := ⟨(ad.add (m * 9)).block, (ad.add (m * 9)).off + 6, none⟩) hbl).trans c6
 replace c7 := (hbw.cell (p := ⟨(ad.add (m * 9)).block, (ad.add (m * 9)).off + 7, none⟩) hbl).trans c7
 replace c8 := (hbw.cell (p := ⟨(ad.add (m * 9)).block, (ad.add (m * 9)).off + 8, none⟩) hbl).trans c8
 replace hbl := Y_ hbl hbw.size
 have hmz : (m : Int) < l.length := by omega
 have hm0 : (0 : Int) ≤ m := by omega
 obtain ⟨hd', hhd⟩ := nm_ (la x)
 have hhl := n8 hxN
 rw [hhd] at hhl ⊢
 have HUL := hid (fun i hi => vq hxN (i := i) hi)
 obtain ⟨xd, xk, xu, xn, xa, xe⟩ := x
 simp only at c0 c1 c2 c3 c4 c5 c6 c7 c8 hk3 hk4 hur HUL
 have hun := hxN.unit
 simp only at hun
 have huc := hur.1
 have hum := (hur.2 [] (by simp)).1
 have hb3 : (xd == 3) = false := aO hk3
 have hb4 : (xd == 4) = false := aO hk4
 have ei : (str ind).size = ind.length := aY ind
 obtain ⟨a1, h1⟩ := nm_ (ind ++ hd')
 obtain ⟨a2, h2⟩ := nm_ (a1 ++ [32, 123, 10])
 obtain ⟨a3, h3⟩ := nm_ (a2 ++ pt)
 obtain ⟨a4, h4⟩ := nm_ (a3 ++ ind)
 obtain ⟨a6, h6⟩ := nm_ (ind ++ [32, 32])
 rw [h1, h2, h3, h4]
 rw [h6] at HKC
 have l1 : a1.length = ind.length + hd'.length := by rw [← h1]; simp
 have l2 : a2.length = a1.length + 3 := by rw [← h2]; simp
 have l3 : a3.length = a2.length + pt.length := by rw [← h3]; simp
 have l4 : a4.length = a3.length + ind.length := by rw [← h4]; simp
 have e1 : ∀ W, (Op.stringOp .add (str ind) (str hd')).run prog W = .ok (.string (str a1)) W := fun W => by rw [← h1]; exact aq ind hd' (by omega) W
 have e2 : ∀ W, (Op.stringOp .add (str a1) ⟨#[32, 123, 10]⟩).run prog W = .ok (.string (str a2)) W := fun W => by rw [← h2]; exact aq a1 [32, 123, 10] (by simp; omega) W
 have e3 : ∀ W, (Op.stringOp .add (str a2) (str pt)).run prog W = .ok (.string (str a3)) W := fun W => by rw [← h3]; exact aq a2 pt (by omega) W
 have e4 : ∀ W, (Op.stringOp .add (str a3) (str ind)).run prog W = .ok (.string (str a4)) W := fun W => by rw [← h4]; exact aq a3 ind (by omega) W
 have e5 : ∀ W, (Op.stringOp .add (str a4) ⟨#[125, 10]⟩).run prog W = .ok (.string (str (a4 ++ [125, 10]))) W := fun W => aq a4 [125, 10] (by simp; omega) W
 have e6 : ∀ W, (Op.stringOp .add (str ind) ⟨#[32, 32]⟩).run prog W = .ok (.string (str a6)) W := fun W => by rw [← h6]; exact aq ind [32, 32] (by simp; omega) W
 obtain ⟨JF, hJF⟩ : ∃ JF : Nat → List UInt8, ∀ i, [117, 110, 105, 116, 32] ++ Lib.join ((xu.take i).map dh) [44, 32] = JF i := ⟨_, fun _ => rfl⟩
 have HJF := hid hJF
 have hhd2 : xd = 2 → hd' = JF 6 := fun h => by subst h; rw [← hhd, ← hJF]; rfl
 have hhd1 : xd = 1 → hd' = [112, 97, 114] := fun h => by subst h; rw [← hhd]; rfl
 have hhd0 : xd ≠ 1 → xd ≠ 2 → hd' = [115, 101, 113] := fun h k => by rw [← hhd]; unfold la; rw [K_ h, K_ k]
 have H := hid (⟨hur, hun, hbw, hhd2, hhd1, hhd0⟩ : _ ∧ _ ∧ _ ∧ _ ∧ _ ∧ _)
 clear hJF hkr hur hgr her hR hx hxN hxX hN hX hun hbw hhd hhd2 hhd1 hhd0 h1 h2 h3 h4 h6 l1 l2 l3 l4 hhl hpk hpl hpz hp hK hk3 hk4 ei
 go_enter func72, ntmps72
 go_upto_block 0 with fail
 obtain ⟨w2, hw2⟩ := nm_ (w.alloc (.cells #[.int .i64 xd, .slice kA xk.length kc, .slice uA xu.length uc, .string xn, .slice gA xa.length gc, .int .i64 xe.op, .int .i64 xe.n, .string xe.name, .slice eA xe.kids.length ec] 43))
 obtain ⟨K, hKK⟩ := nm_ w.heap.size
 have HX : Hid (w2.heap[K]? = some (.cells #[.int .i64 xd, .slice kA xk.length kc, .slice uA xu.length uc, .string xn, .slice gA xa.length gc, .int .i64 xe.op, .int .i64 xe.n, .string xe.name, .slice eA xe.kids.length ec] 43 (0, 0)) ∧ Below w.heap.size w w2) := hid (by
  rw [← hw2, ← hKK]; exact ⟨I_ _ _, (J_ _ _).alloc le_ _⟩)
 rw [hw2, hKK]
 have hkl := ab HX.out.1
 obtain ⟨b0, b1, b2, b3, b4, b5, b6, b7, b8⟩ := gZ HX.out.1
 clear c0 c1 c2 c3 c4 c5 c6 c7 c8 hbl hw2
 go_cut [11] (fun s11 wx => s11 = .string (str hd') ∧ Below w2.heap.size w2 wx)
 case first =>
  clear e1 e2 e3 e4 e5 e6
  by_cases hk1 : xd = 1
  ·have hh := H.out.2.2.2.2.1 hk1
   have hb1 : (xd == 1) = true := D_ hk1
   subst hk1
   go_wp2_with fail
   go_meet
   exact ⟨by rw [hh]; rfl, J_ _ _⟩
  ·by_cases hk2 : xd = 2
   ·have hh := H.out.2.2.2.1 hk2
    subst hk2
    go_wp2_with fail
    clear b0 b1 b2 b3 b4 b5 b6 b7 b8
    go_loopg [11, 19] 8 (fun q s11 s19 wr => ∃ i : Nat, s11 = .string (str (JF i)) ∧ s19 = .int .i64 (i : Nat) ∧ i ≤ xu.length ∧ i ≤ 6 ∧ 6 - i < q ∧ wr = w2)
    case atStart => exact ⟨0, by rw [← HJF.out 0]; simp [Lib.join_nil]; rfl, rfl, h_ _, by omega, by omega, rfl⟩
    case round =>
     obtain ⟨i, rfl, rfl, hin, hi6, hiq, rfl⟩ := hrel
     obtain ⟨gk, rfl⟩ := pk_ gk 1 (by omega)
     obtain ⟨b0, b1, b2, b3, b4, b5, b6, b7, b8⟩ := gZ HX.out.1
     have hjl := HUL.out i hi6
     have hi0 : (0 : Int) ≤ i := by omega
     have hjl2 : (JF i).length ≤ 400005 := by rw [← HJF.out i]; simp only [O_, P_, b_]; omega
     by_cases hlt : i < xu.length ∧ i ≤ 5
     ·obtain ⟨hlt, hi5⟩ := hlt
      have hiz : (i : Int) < xu.length := by omega
      have hi5z : (i : Int) ≤ 5 := by omega
      obtain ⟨ud, rfl, d0, hdl⟩ := eX (H.out.1.below (H.out.2.2.1.trans (HX.out.2.mono H.out.2.2.1.size))) i hlt
      obtain ⟨u, hu⟩ := nm_ (xu[i])
      have hus := H.out.2.1 u (hu ▸ g_ hlt)
      rw [hu] at d0
      have hst : JF (i + 1) = JF i ++ ((if i = 0 then [] else [44, 32]) ++ dh u) := by
       have he : ((xu.take i).map dh).isEmpty = decide (i = 0) := by
        cases i with
        | zero => simp
        | succ i => cases xu with | nil => simp at hlt | cons _ _ => simp
       rw [← HJF.out, ← HJF.out, Z_ hlt, hu, f_, List.map_cons, List.map_nil, n9, he, o_]
       by_cases h0 : i = 0
       ·simp [h0]
       ·simp [h0]
      by_cases hz : i = 0
      ·have hzp : ¬ (0 : Int) < i := by omega
       rw [M_ hz, List.nil_append] at hst
       have q1 : ∀ W, (Op.stringOp .add (str (JF i)) u).run prog W = .ok (.string (str (JF (i + 1)))) W := fun W => by
        have := aq (JF i) (dh u) (by rw [bm]; omega) W
        rw [← hst] at this
        rwa [show str (dh u) = u from bT u] at this
       clear hst hu hus hz hjl hjl2
       go_wp2_with fail
       go_roundg gk
       case measure => omega
       case rel => exact ⟨i + 1, rfl, by go_num, by omega, by omega, by omega, rfl⟩
      ·have hzp : (0 : Int) < i := by omega
       rw [K_ hz] at hst
       have q0 : ∀ W, (Op.stringOp .add (str (JF i)) ⟨#[44, 32]⟩).run prog W = .ok (.string (str (JF i ++ [44, 32]))) W := fun W => aq (JF i) [44, 32] (by simp; omega) W
       have q1 : ∀ W, (Op.stringOp .add (str (JF i ++ [44, 32])) u).run prog W = .ok (.string (str (JF (i + 1)))) W := fun W => by
        have := aq (JF i ++ [44, 32]) (dh u) (by rw [bm]; simp; omega) W
        rw [o_, ← hst] at this
        rwa [show str (dh u) = u from bT u] at this
       clear hst hu hus hz hjl hjl2
       go_wp2_with fail
       go_roundg gk
       case measure => omega
       case rel => exact ⟨i + 1, rfl, by go_num, by omega, by omega, by omega, rfl⟩
     ·have hJT : JF i = hd' := by
       rw [hh, ← HJF.out, ← HJF.out]
       by_cases h5 : i = 6
       ·rw [h5]
       ·rw [List.take_of_length_le (by omega : xu.length ≤ i), List.take_of_length_le (by omega : xu.length ≤ 6)]
      have HJT := hid hJT
      have key : xu.length ≤ i ∨ i < xu.length ∧ ¬ i ≤ 5 := by omega
      clear hJT hjl hjl2 hlt
      rcases key with h1 | ⟨h1, h2⟩
      ·have hiz : ¬ (i : Int) < xu.length := by omega
       go_wp2_with fail
       go_meet
       exact ⟨by rw [HJT.out], J_ _ _⟩
      ·have hiz : (i : Int) < xu.length := by omega
       have hi5z : ¬ (i : Int) ≤ 5 := by omega
       go_wp2_with fail
       go_meet
       exact ⟨by rw [HJT.out], J_ _ _⟩
   ·have hh := H.out.2.2.2.2.2 hk1 hk2
    have hb1 : (xd == 1) = false := aO hk1
    have hb2 : (xd == 2) = false := aO hk2
    go_wp2_with fail
    go_meet
    exact ⟨by rw [hh]; rfl, J_ _ _⟩
 case rest =>
  obtain ⟨rfl, hbx⟩ := hcut
  have HB3 := hid (HX.out.2.trans (hbx.mono HX.out.2.size))
  clear hbx b0 b1 b2 b3 b4 b5 b6 b7 b8
  have HC3 := hid (HKC.out _ (H.out.2.2.1.trans (HB3.out.mono H.out.2.2.1.size)))
  go_wp2_with fail
  refine HC3.out.mono ?_
  rintro r w4 ⟨rfl, hb4⟩
  have HB4 := tm_ HB3 hb4
  clear hb4
  go_wp2_with fail
  refine L_ (v := .tuple #[.string (str (a4 ++ [125, 10])), .int .i64 pl]) (by simp [results, results72, go_sem, *]) rfl ?_
  exact ⟨rfl, hKK ▸ HB4.out⟩
theorem qG {P l nA nc wB f} (hN : ∀ x, x ∈ l → g9 x) (hX : ∀ x, x ∈ l → sx x) (hR : aw nM P wB nA nc l) (hK : zu l nA nc wB f) {m} (hm : m < l.length) (hk4 : l[m].kind = 4) (hd : (l.length : Int) - m ≤ f + 1) (ind L w) (hi : ind.length + 2 * (f + 1) ≤ 1000) (hL0 : 0 ≤ L) (hL3 : L ≤ 30) (hbw : Below wB.heap.size wB w) :
  Calls prog 72 #[.slice nA l.length nc, .int .i64 m, .string (str ind), .int .i64 L] w fun r w' => r = .returned (.tuple #[.string (str (gK l (aL l (cH l f)) l[m] m ind L).1), .int .i64 (gK l (aL l (cH l f)) l[m] m ind L).2]) ∧ Below w.heap.size w w' := by
 have HKL := hid (fun k L (h : 0 ≤ L) => eS (L := L) hN (f := f) (k := k) (ind := ind ++ [32, 32]) (by simp; omega) h)
 have HKC := hid (fun (k L : Int) W (h0 : (m : Int) < k) (h1 : k < l.length) (h2 : 0 ≤ L) (h3 : L ≤ 30) (hW : Below wB.heap.size wB W) => hK k (ind ++ [32, 32]) L W (by omega) h1 (by omega) (by simp; omega) h2 h3 hW)
 obtain ⟨ad, _, rfl, _, _⟩ := hR.at_ m hm
 obtain ⟨kA, kc, uA, uc, gA, gc, eA, ec, ⟨c0, c1, c2, c3, c4, c5, c6, c7, c8⟩, hkr, hur, hgr, her, hbl⟩ := da hR m hm
 have hlc := hR.1
 have hml := (hR.2 [] (by simp)).1
 obtain ⟨x, hx⟩ := nm_ (l[m])
 have hxN : g9 x := hx ▸ hN _ (g_ hm)
 have hxX : sx x := hx ▸ hX _ (g_ hm)
 rw [hx] at c0 c1 c2 c3 c4 c5 c6 c7 c8 hkr hur hgr her hk4 ⊢
 replace c0 := (hbw.cell (p := ad.add (m * 9)) hbl).trans c0
 replace c1 := (hbw.cell (p := ⟨(ad.add (m * 9)).block, (ad.add (m * 9)).off + 1, none⟩) hbl).trans c1
 replace c2 := (hbw.cell (p := ⟨(ad.add (m * 9)).block, (ad.add (m * 9)).off + 2, none⟩) hbl).trans c2
 replace c3 := (hbw.cell (p := ⟨(ad.add (m * 9)).block, (ad.add (m * 9)).off + 3, none⟩) hbl).trans c3
 replace c4 := (hbw.cell (p := ⟨(ad.add (m * 9)).block, (ad.add (m * 9)).off + 4, none⟩) hbl).trans c4
 replace c5 := (hbw.cell (p := ⟨(ad.add (m * 9)).block, (ad.add (m * 9)).off + 5, none⟩) hbl).trans c5
 replace c6 := (hbw.cell (p := ⟨(ad.add (m * 9)).block, (ad.add (m * 9)).off + 6, none⟩) hbl).trans c6
 replace c7 := (hbw.cell (p := ⟨(ad.add (m * 9)).block, (ad.add (m * 9)).off + 7, none⟩) hbl).trans c7
 replace c8 := (hbw.cell (p := ⟨(ad.add (m * 9)).block, (ad.add (m * 9)).off + 8, none⟩) hbl).trans c8
 replace hbl := Y_ hbl hbw.size
 have hmz : (m : Int) < l.length := by omega
 have hm0 : (0 : Int) ≤ m := by omega
 obtain ⟨F, hF⟩ := nm_ (gK l (aL l (cH l f)) x m ind L)
 rw [hF]
 unfold gK at hF
 obtain ⟨xd, xk, xu, xn, xa, xe⟩ := x
 simp only at c0 c1 c2 c3 c4 c5 c6 c7 c8 hk4 hkr her
 subst hk4
 have hex := hxN.ex
 have hexx := hxX.ex
 simp only at hex hexx
 have hkl := hkr.1
 have hkm := (hkr.2 [] (by simp)).1
 have hpl := eW hex
 have HPR := hid (fun W (hW : Below wB.heap.size wB W) => mC xe eA ec W ((her.2 [] (by simp)).keep (Same.of_below hW)) her.1 hex hexx)
 have H := hk_ hkr hR hbw
 clear hkr hur hgr her hR hx hxN hxX hN hX hbw hK hex hexx
 go_enter func72, ntmps72
 go_upto_region 2 with fail
 obtain ⟨w2, hw2⟩ := nm_ (w.alloc (.cells #[.int .i64 4, .slice kA xk.length kc, .slice uA xu.length uc, .string xn, .slice gA xa.length gc, .int .i64 xe.op, .int .i64 xe.n, .string xe.name, .slice eA xe.kids.length ec] 43))
 obtain ⟨K, hKK⟩ := nm_ w.heap.size
 have HX : Hid (w2.heap[K]? = some (.cells #[.int .i64 4, .slice kA xk.length kc, .slice uA xu.length uc, .string xn, .slice gA xa.length gc, .int .i64 xe.op, .int .i64 xe.n, .string xe.name, .slice eA xe.kids.length ec] 43 (0, 0)) ∧ Below w.heap.size w w2) := hid (by
  rw [← hw2, ← hKK]; exact ⟨I_ _ _, (J_ _ _).alloc le_ _⟩)
 rw [hw2, hKK]
 have hkl2 := ab HX.out.1
 obtain ⟨b0, b1, b2, b3, b4, b5, b6, b7, b8⟩ := gZ HX.out.1
 clear c0 c1 c2 c3 c4 c5 c6 c7 c8 hbl hw2
 have fin : F = ([], -1) → ∀ v, v = Value.tuple #[.string ⟨#[]⟩, .int .i64 (-1)] → (Ending.returned v) = Ending.returned (.tuple #[.string (str F.1), .int .i64 F.2]) := fun h v e => by rw [e, h]; rfl
 by_cases hc1 : xk.length ≠ 2
 ·rw [M_ (.inl hc1)] at hF
  have FIN := hid (fin hF.symm)
  have t1 : ((xk.length : Int) == 2) = false := aO (by omega)
  have t2 : ((xk.length : Int) != 2) = true := jA (by omega)
  clear hF fin hc1
  go_wp2_with fail
  refine L_ (v := .tuple #[.string ⟨#[]⟩, .int .i64 (-1)]) (by simp [results, results72, go_sem, *]) rfl ?_
  exact ⟨FIN.out _ rfl, hKK ▸ HX.out.2⟩
 obtain ⟨a, b, rfl⟩ : ∃ a b, xk = [a, b] := by
  match xk, (Decidable.not_not.1 hc1 : xk.length = 2) with
  | [a, b], _ => exact ⟨a, b, rfl⟩
 clear hc1
 obtain ⟨ka, rfl, d0, hdl⟩ := bX (H.out.1.below (H.out.2.2.trans (HX.out.2.mono H.out.2.2.size))) 0 (by show 0 < 2; decide)
 obtain ⟨ka', e', d1, _⟩ := bX (H.out.1.below (H.out.2.2.trans (HX.out.2.mono H.out.2.2.size))) 1 (by show 1 < 2; decide)
 injection e' with e'
 subst e'
 have d0 : w2.cell? ka = some (.int .i64 a) := d0
 have d1 : w2.cell? ⟨ka.block, ka.off + 1, none⟩ = some (.int .i64 b) := d1
 have b1 : w2.cell? ⟨K, 1, none⟩ = some (.slice (some ka) 2 kc) := b1
 have hk2 : (2 : Int) ≤ kc := by have : [a, b].length ≤ kc := hkl; simp at this; omega
 have hF : (if iu ⟨4, [a, b], xu, xn, xa, xe⟩ m l.length L then (([], -1) : List UInt8 × Int) else if (aL l (cH l f) a (ind ++ [32, 32]) (L - 2)).2 < 0 then ([], -1) else (mY ⟨4, [a, b], xu, xn, xa, xe⟩ ind ++ (aL l (cH l f) a (ind ++ [32, 32]) (L - 2)).1 ++ n6 l ⟨4, [a, b], xu, xn, xa, xe⟩ ind (aL l (cH l f) b (ind ++ [32, 32]) (aL l (cH l f) a (ind ++ [32, 32]) (L - 2)).2).1 ++ ind ++ [125, 10], (aL l (cH l f) b (ind ++ [32, 32]) (aL l (cH l f) a (ind ++ [32, 32]) (L - 2)).2).2)) = F := hF
 by_cases hc2 : L < 2
 ·rw [M_ (.inr (.inl hc2))] at hF
  have FIN := hid (fin hF.symm)
  clear hF fin
  go_wp2_with fail
  refine L_ (v := .tuple #[.string ⟨#[]⟩, .int .i64 (-1)]) (by simp [results, results72, go_sem, *]) rfl ?_
  exact ⟨FIN.out _ rfl, hKK ▸ HX.out.2⟩
 by_cases hc3 : a ≤ m
 ·rw [M_ (.inr (.inr (.inl hc3)))] at hF
  have FIN := hid (fin hF.symm)
  clear hF fin
  go_wp2_with fail
  refine L_ (v := .tuple #[.string ⟨#[]⟩, .int .i64 (-1)]) (by simp [results, results72, go_sem, *]) rfl ?_
  exact ⟨FIN.out _ rfl, hKK ▸ HX.out.2⟩
 by_cases hc4 : b ≤ m
 ·rw [M_ (.inr (.inr (.inr (.inl hc4))))] at hF
  have FIN := hid (fin hF.symm)
  clear hF fin
  go_wp2_with fail
  refine L_ (v := .tuple #[.string ⟨#[]⟩, .int .i64 (-1)]) (by simp [results, results72, go_sem, *]) rfl ?_
  exact ⟨FIN.out _ rfl, hKK ▸ HX.out.2⟩
 by_cases hc5 : (l.length : Int) ≤ a
 ·rw [M_ (.inr (.inr (.inr (.inr (.inl hc5)))))] at hF
  have FIN := hid (fin hF.symm)
  clear hF fin
  go_wp2_with fail
  refine L_ (v := .tuple #[.string ⟨#[]⟩, .int .i64 (-1)]) (by simp [results, results72, go_sem, *]) rfl ?_
  exact ⟨FIN.out _ rfl, hKK ▸ HX.out.2⟩
 by_cases hc6 : (l.length : Int) ≤ b
 ·rw [M_ (.inr (.inr (.inr (.inr (.inr hc6)))))] at hF
  have FIN := hid (fin hF.symm)
  clear hF fin
  go_wp2_with fail
  refine L_ (v := .tuple #[.string ⟨#[]⟩, .int .i64 (-1)]) (by simp [results, results72, go_sem, *]) rfl ?_
  exact ⟨FIN.out _ rfl, hKK ▸ HX.out.2⟩
 rw [K_ (by
  rintro (h | h | h | h | h | h)
  ·exact h rfl
  ·exact hc2 h
  ·exact hc3 h
  ·exact hc4 h
  ·exact hc5 h
  ·exact hc6 h)] at hF
 obtain ⟨bn, rfl⟩ : ∃ bn : Nat, b = bn := ⟨b.toNat, by omega⟩
 have hbn : bn < l.length := by omega
 have hla := HKL.out a (L - 2) (by omega)
 have HCA := hid (HKC.out a (L - 2) w2 (by omega) (by omega) (by omega) (by omega) (H.out.2.2.trans (HX.out.2.mono H.out.2.2.size)))
 obtain ⟨⟨at', al⟩, hpa⟩ : ∃ p, aL l (cH l f) a (ind ++ [32, 32]) (L - 2) = p := ⟨_, rfl⟩
 rw [hpa] at hF hla HCA
 simp only at hF HCA
 have hla1 : (at'.length : Int) + 8589934592 * pz al ≤ 0 + 8589934592 * (L - 2) := hla.1
 have hla2 : al ≤ L - 2 := hla.2.1
 have hpz := qw al
 obtain ⟨a6, h6⟩ := nm_ (ind ++ [32, 32])
 have HA6 := hid h6
 rw [h6] at HCA hF
 have e6 : ∀ W, (Op.stringOp .add (str ind) ⟨#[32, 32]⟩).run prog W = .ok (.string (str a6)) W := fun W => by rw [← h6]; exact aq ind [32, 32] (by simp; omega) W
 have hkaz : (a : Int) < l.length := by omega
 clear hla hpa h6
 by_cases hal : al < 0
 ·rw [M_ hal] at hF
  have FIN := hid (fin hF.symm)
  clear hF fin
  go_wp2_with fail
  refine HCA.out.mono ?_
  rintro r w4 ⟨rfl, hb4⟩
  have HB4 := hid (HX.out.2.trans (hb4.mono HX.out.2.size))
  clear hb4
  go_wp2_with fail
  refine L_ (v := .tuple #[.string ⟨#[]⟩, .int .i64 (-1)]) (by simp [results, results72, go_sem, *]) rfl ?_
  exact ⟨FIN.out _ rfl, hKK ▸ HB4.out⟩
 rw [K_ hal] at hF
 rw [js (by omega)] at hla1
 have hlb := HKL.out bn al (by omega)
 have HCB := hid (fun W (hW : Below wB.heap.size wB W) => HKC.out bn al W (by omega) (by omega) (by omega) (by omega) hW)
 rw [HA6.out] at hlb HCB
 obtain ⟨⟨bt, bl⟩, hpb⟩ : ∃ p, aL l (cH l f) bn a6 al = p := ⟨_, rfl⟩
 rw [hpb] at hF hlb HCB
 simp only at hF HCB
 have hlb1 : (bt.length : Int) + 8589934592 * pz bl ≤ 0 + 8589934592 * al := hlb.1
 have hpzb := qw bl
 unfold mY n6 at hF
 have hk1 : k1 ⟨4, [a, (bn : Int)], xu, xn, xa, xe⟩ = bn := rfl
 rw [hk1, ga (by omega) (by omega)] at hF
 simp only [Int.toNat_natCast] at hF
 obtain ⟨pe, hpe⟩ := nm_ (dz xe)
 rw [hpe] at hF hpl
 simp only [hpe] at HPR
 obtain ⟨s1, h1⟩ := nm_ (ind ++ [105, 102, 32])
 rw [h1] at hF
 obtain ⟨s2, h2⟩ := nm_ (s1 ++ pe)
 rw [h2] at hF
 obtain ⟨s3, h3⟩ := nm_ (s2 ++ [32, 123, 10])
 rw [h3] at hF
 obtain ⟨s4, h4⟩ := nm_ (s3 ++ at')
 rw [h4] at hF
 have l1 : s1.length = ind.length + 3 := by rw [← h1]; simp
 have l2 : s2.length = s1.length + pe.length := by rw [← h2]; simp
 have l3 : s3.length = s2.length + 3 := by rw [← h3]; simp
 have l4 : s4.length = s3.length + at'.length := by rw [← h4]; simp
 have e1 : ∀ W, (Op.stringOp .add (str ind) ⟨#[105, 102, 32]⟩).run prog W = .ok (.string (str s1)) W := fun W => by rw [← h1]; exact aq ind [105, 102, 32] (by simp; omega) W
 have e2 : ∀ W, (Op.stringOp .add (str s1) (str pe)).run prog W = .ok (.string (str s2)) W := fun W => by rw [← h2]; exact aq s1 pe (by omega) W
 have e3 : ∀ W, (Op.stringOp .add (str s2) ⟨#[32, 123, 10]⟩).run prog W = .ok (.string (str s3)) W := fun W => by rw [← h3]; exact aq s2 [32, 123, 10] (by simp; omega) W
 have e4 : ∀ W, (Op.stringOp .add (str s3) (str at')).run prog W = .ok (.string (str s4)) W := fun W => by rw [← h4]; exact aq s3 at' (by omega) W
 have hln4 : s4.length ≤ 300000000000 := by omega
 have hlnb : bt.length ≤ 300000000000 := by omega
 have hlni : ind.length ≤ 1000 := by omega
 have HF := hl_ hF hln4 hlnb hlni
 have hbnz : (bn : Int) < l.length := by omega
 have hbn0 : (0 : Int) ≤ bn := by omega
 clear hF fin h1 h2 h3 h4 l1 l2 l3 l4 hpl hpe hlb hpb hlb1 hpzb hla1 hpz hln4 hlnb hlni
 go_wp2_with fail
 refine HCA.out.mono ?_
 rintro r w4 ⟨rfl, hb4⟩
 have HB4 := hid hb4
 clear b0 b1 b2 b3 b4 b5 b6 b7 b8 d0 d1 hdl
 have hx4 := (HB4.out.block K hkl2).trans HX.out.1
 have HX4 := hid hx4
 have HW4 := hid (H.out.2.2.trans ((HX.out.2.trans (hb4.mono HX.out.2.size)).mono H.out.2.2.size))
 obtain ⟨b0, b1, b2, b3, b4, b5, b6, b7, b8⟩ := gZ hx4
 have hkl4 := ab hx4
 obtain ⟨ka', e', d1, hdl⟩ := bX (H.out.1.below HW4.out) 1 (by show 1 < 2; decide)
 injection e' with e'
 subst e'
 have d1 : w4.cell? ⟨ka.block, ka.off + 1, none⟩ = some (.int .i64 bn) := d1
 have b1 : w4.cell? ⟨K, 1, none⟩ = some (.slice (some ka) 2 kc) := b1
 clear hb4 hx4
 go_wp2_with fail
 refine (HCB.out w4 HW4.out).mono ?_
 rintro r w5 ⟨rfl, hb5⟩
 have HB5 := hid hb5
 clear b0 b1 b2 b3 b4 b5 b6 b7 b8 d1 hdl
 have hx5 := (HB5.out.block K hkl4).trans HX4.out
 have HX5 := hid hx5
 have HW5 := tm_ HW4 hb5
 obtain ⟨b0, b1, b2, b3, b4, b5, b6, b7, b8⟩ := gZ hx5
 have hkl5 := ab hx5
 clear hb5 hx5
 go_wp2_with fail
 refine (HPR.out w5 HW5.out).mono ?_
 rintro r w6 ⟨rfl, hb6⟩
 have HB6 := hid hb6
 clear b0 b1 b2 b3 b4 b5 b6 b7 b8
 have hx6 := (HB6.out.block K hkl5).trans HX5.out
 have HX6 := hid hx6
 have HW6 := tm_ HW5 hb6
 have HBB := hid (((HX.out.2.trans (HB4.out.mono HX.out.2.size)).trans (HB5.out.mono (HX.out.2.trans (HB4.out.mono HX.out.2.size)).size)).trans (HB6.out.mono ((HX.out.2.trans (HB4.out.mono HX.out.2.size)).trans (HB5.out.mono (HX.out.2.trans (HB4.out.mono HX.out.2.size)).size)).size))
 obtain ⟨b0, b1, b2, b3, b4, b5, b6, b7, b8⟩ := gZ hx6
 have hkl6 := ab hx6
 obtain ⟨ka', e', d1, hdl⟩ := bX (H.out.1.below HW6.out) 1 (by show 1 < 2; decide)
 injection e' with e'
 subst e'
 have d1 : w6.cell? ⟨ka.block, ka.off + 1, none⟩ = some (.int .i64 bn) := d1
 have b1 : w6.cell? ⟨K, 1, none⟩ = some (.slice (some ka) 2 kc) := b1
 obtain ⟨yA, yc, _, _, _, _, _, _, ⟨_, n1, _⟩, _, _, _, _, hyl⟩ := da (H.out.2.1.below HW6.out) bn hbn
 obtain ⟨yn, hyn⟩ := nm_ ((l[bn]).kids.length)
 rw [hyn] at n1
 clear hb6 hx6
 have hyi : l[bn].kids = [] ↔ yn = 0 := by rw [← hyn]; exact List.length_eq_zero_iff.symm
 by_cases hz : yn = 0
 ·have hF := HF.out.1
  rw [M_ (hyi.2 hz), List.append_nil] at hF
  have hll := HF.out.2
  obtain ⟨q1, hq1⟩ := nm_ (s4 ++ ind)
  have lq1 : q1.length = s4.length + ind.length := by rw [← hq1, O_]
  obtain ⟨q2, hq2⟩ := nm_ (q1 ++ [125, 10])
  rw [hq1, hq2] at hF
  have e7 : ∀ W, (Op.stringOp .add (str s4) (str ind)).run prog W = .ok (.string (str q1)) W := fun W => by rw [← hq1]; exact aq s4 ind (by omega) W
  have e8 : ∀ W, (Op.stringOp .add (str q1) ⟨#[125, 10]⟩).run prog W = .ok (.string (str q2)) W := fun W => by rw [← hq2]; exact aq q1 [125, 10] (by simp; omega) W
  have HFF := hid hF
  clear hF hyi hyn hq1 hq2 lq1 hll
  subst hz
  go_wp2_with fail
  refine L_ (v := .tuple #[.string (str q2), .int .i64 bl]) (by simp [results, results72, go_sem, *]) rfl ?_
  exact ⟨by rw [← HFF.out], hKK ▸ HBB.out⟩
 ·have hF := HF.out.1
  rw [K_ (fun h => hz (hyi.1 h))] at hF
  have hll := HF.out.2
  obtain ⟨q1, hq1⟩ := nm_ (s4 ++ ind)
  have lq1 : q1.length = s4.length + ind.length := by rw [← hq1, O_]
  obtain ⟨q2, hq2⟩ := nm_ (q1 ++ [125, 32, 101, 108, 115, 101, 32, 123, 10])
  have lq2 : q2.length = q1.length + 9 := by rw [← hq2]; simp
  obtain ⟨q3, hq3⟩ := nm_ (q2 ++ bt)
  have lq3 : q3.length = q2.length + bt.length := by rw [← hq3, O_]
  obtain ⟨q4, hq4⟩ := nm_ (q3 ++ ind)
  have lq4 : q4.length = q3.length + ind.length := by rw [← hq4, O_]
  obtain ⟨q5, hq5⟩ := nm_ (q4 ++ [125, 10])
  have e7 : ∀ W, (Op.stringOp .add (str s4) (str ind)).run prog W = .ok (.string (str q1)) W := fun W => by rw [← hq1]; exact aq s4 ind (by omega) W
  have e8 : ∀ W, (Op.stringOp .add (str q1) ⟨#[125, 32, 101, 108, 115, 101, 32, 123, 10]⟩).run prog W = .ok (.string (str q2)) W := fun W => by rw [← hq2]; exact aq q1 [125, 32, 101, 108, 115, 101, 32, 123, 10] (by simp; omega) W
  have e9 : ∀ W, (Op.stringOp .add (str q2) (str bt)).run prog W = .ok (.string (str q3)) W := fun W => by rw [← hq3]; exact aq q2 bt (by omega) W
  have e10 : ∀ W, (Op.stringOp .add (str q3) (str ind)).run prog W = .ok (.string (str q4)) W := fun W => by rw [← hq4]; exact aq q3 ind (by omega) W
  have e11 : ∀ W, (Op.stringOp .add (str q4) ⟨#[125, 10]⟩).run prog W = .ok (.string (str q5)) W := fun W => by rw [← hq5]; exact aq q4 [125, 10] (by simp; omega) W
  have hfe : F = (q5, bl) := by rw [← hF, ← hq5, ← hq4, ← hq3, ← hq2, ← hq1]; simp
  have HFF := hid hfe
  have hzp : (0 : Int) < yn := by omega
  clear hF hyi hyn hq1 hq2 hq3 hq4 hq5 lq1 lq2 lq3 lq4 hfe hll
  go_wp2_with fail
  refine L_ (v := .tuple #[.string (str q5), .int .i64 bl]) (by simp [results, results72, go_sem, *]) rfl ?_
  exact ⟨by rw [HFF.out], hKK ▸ HBB.out⟩
theorem xL {P l nA nc wB f} (hN : ∀ x, x ∈ l → g9 x) (hX : ∀ x, x ∈ l → sx x) (hR : aw nM P wB nA nc l) (hK : zu l nA nc wB f) : zt l nA nc wB (f + 1) := by
 intro k ind L w h0 hk hd hi hL0 hL3 hbw
 obtain ⟨m, rfl⟩ : ∃ m : Nat, k = m := ⟨k.toNat, by omega⟩
 have hm : m < l.length := by omega
 have hnd : bf l m = l[m] := ga h0 hk
 rw [cH]
 unfold u'
 rw [hnd]
 by_cases h3 : l[m].kind = 3
 ·simp only [M_ h3]
  exact sy hN hX hR hm h3 ind L w (by omega) hbw
 ·simp only [K_ h3]
  by_cases h4 : l[m].kind = 4
  ·simp only [M_ h4]
   exact qG hN hX hR hK hm h4 (by omega) ind L w hi hL0 hL3 hbw
  ·simp only [K_ h4]
   exact xK hN hX hR hK hm h3 h4 (by omega) ind L w hi hL0 hL3 hbw
theorem oh {P l nA nc wB} (hN : ∀ x, x ∈ l → g9 x) (hX : ∀ x, x ∈ l → sx x) (hR : aw nM P wB nA nc l) : ∀ f : Nat, zt l nA nc wB f
 | 0 => fun k ind L w h0 hk hd => by omega
 | f + 1 => xL hN hX hR (j8 hN hR (oh hN hX hR f))
theorem xM {ps : List ia} (h : ∀ p, p ∈ ps → p.name.size ≤ 65536 ∧ gu p.n) (h4 : ps.length ≤ 4) : ∀ i, (bs (ps.take i)).length ≤ 264000 := by
 have key : ∀ qs : List ia, (∀ p, p ∈ qs → p.name.size ≤ 65536 ∧ gu p.n) → (bs qs).length ≤ qs.length * 66000 := by
  intro qs
  induction qs with
  | nil => intro _; simp [bs]
  | cons q qs ih =>
   intro h
   have h1 := qm (h q (by simp))
   have h2 := ih (fun p hp => h p (by simp [hp]))
   have e : bs (q :: qs) = mZ q ++ bs qs := rfl
   rw [e, O_, P_, Nat.succ_mul]
   omega
 intro i
 have h1 := key (ps.take i) (fun p hp => h p (List.mem_of_mem_take hp))
 have h2 : (ps.take i).length ≤ 4 := d_ (List.length_take_le' _ _) h4
 have h3 := Nat.mul_le_mul_right 66000 h2
 omega
theorem sA {P} (r pA pc nA nc w) (h : iq P w r pA pc nA nc) (hN : m4 r) (hX : ∀ x, x ∈ r.nodes → sx x) :
  Calls prog 15 #[m5 r pA pc nA nc] w fun e w' => e = .returned (.tuple #[.string (str (lb r).1), .bool (lb r).2]) ∧ Below w.heap.size w w' := by
 have hpc := h.prms.1
 have hpm := (h.prms.2 [] (by simp)).1
 have hnc := h.nds.1
 have hnm := (h.nds.2 [] (by simp)).1
 have HPX := hid (j8 hN.nd h.nds (oh hN.nd hX h.nds 24))
 have HPL := hid (fun L (hL : 0 ≤ L) => eS hN.nd (f := 24) (k := 0) (ind := [32, 32]) (L := L) (by decide) hL)
 obtain ⟨F, hF⟩ := nm_ (lb r)
 rw [hF]
 unfold lb at hF
 have htl : (du r).length = 8 + r.name.size := by unfold du; rw [O_, O_, bm]; simp; omega
 obtain ⟨T, hT⟩ := nm_ (du r)
 rw [hT] at hF htl
 unfold du at hT
 have hnl := hN.name
 have hPN := hN.prm
 obtain ⟨rn, ps, nd⟩ := r
 simp only at hF hT htl hnl hPN hpc hpm hnc hnm HPX HPL
 have HH := hid h
 simp only [m5]
 clear h hN hX
 have fin : F = ([], false) → ∀ v, v = Value.tuple #[.string ⟨#[]⟩, .bool false] → (Ending.returned v) = Ending.returned (.tuple #[.string (str F.1), .bool F.2]) := fun h v e => by rw [e, h]; rfl
 go_enter func15, ntmps15
 go_upto_region 1 with fail
 obtain ⟨w2, hw2⟩ := nm_ (w.alloc (.cells #[.string rn, .slice pA ps.length pc, .slice nA nd.length nc] 26))
 obtain ⟨K, hKK⟩ := nm_ w.heap.size
 have HX : Hid (w2.heap[K]? = some (.cells #[.string rn, .slice pA ps.length pc, .slice nA nd.length nc] 26 (0, 0)) ∧ Below w.heap.size w w2) := hid (by
  rw [← hw2, ← hKK]; exact ⟨I_ _ _, (J_ _ _).alloc le_ _⟩)
 have hkl := ab HX.out.1
 obtain ⟨⟨b0, b1, b2⟩, _⟩ := bx HX.out.1
 rw [hw2, hKK]
 clear hw2
 by_cases hc1 : 4 < ps.length
 ·rw [M_ (.inl hc1)] at hF
  have FIN := hid (fin hF.symm)
  have hz1 : (4 : Int) < ps.length := by omega
  clear hF fin
  go_wp2_with fail
  refine L_ (v := .tuple #[.string ⟨#[]⟩, .bool false]) (by simp [results, results15, go_sem, *]) rfl ?_
  exact ⟨FIN.out _ rfl, hKK ▸ HX.out.2⟩
 have hz1 : ¬ (4 : Int) < ps.length := by omega
 by_cases hc2 : nd.length < 1
 ·rw [M_ (.inr (.inl hc2))] at hF
  have FIN := hid (fin hF.symm)
  have t1 : ((nd.length : Int) == 0) = true := D_ (by omega)
  clear hF fin
  go_wp2_with fail
  refine L_ (v := .tuple #[.string ⟨#[]⟩, .bool false]) (by simp [results, results15, go_sem, *]) rfl ?_
  exact ⟨FIN.out _ rfl, hKK ▸ HX.out.2⟩
 have t1 : ((nd.length : Int) == 0) = false := aO (by omega)
 by_cases hc3 : 24 < nd.length
 ·rw [M_ (.inr (.inr hc3))] at hF
  have FIN := hid (fin hF.symm)
  have hz3 : (24 : Int) < nd.length := by omega
  clear hF fin
  go_wp2_with fail
  refine L_ (v := .tuple #[.string ⟨#[]⟩, .bool false]) (by simp [results, results15, go_sem, *]) rfl ?_
  exact ⟨FIN.out _ rfl, hKK ▸ HX.out.2⟩
 have hz3 : ¬ (24 : Int) < nd.length := by omega
 rw [K_ (by omega)] at hF
 clear fin
 obtain ⟨a1, h1⟩ := nm_ ([114, 101, 99, 105, 112, 101, 32] ++ dh rn)
 rw [h1] at hT
 have l1 : a1.length = 7 + rn.size := by rw [← h1, O_, bm]; rfl
 have e1 : ∀ W, (Op.stringOp .add ⟨#[114, 101, 99, 105, 112, 101, 32]⟩ rn).run prog W = .ok (.string (str a1)) W := fun W => by
  have := aq [114, 101, 99, 105, 112, 101, 32] (dh rn) (by rw [bm]; simp; omega) W
  rw [h1, show str (dh rn) = rn from bT rn] at this
  exact this
 have e2 : ∀ W, (Op.stringOp .add (str a1) ⟨#[10]⟩).run prog W = .ok (.string (str T)) W := fun W => by rw [← hT]; exact aq a1 [10] (by simp; omega) W
 have HPS := hid (xM hPN (by omega))
 obtain ⟨PF, hPF⟩ : ∃ PF : Nat → List UInt8, ∀ i, T ++ bs (ps.take i) = PF i := ⟨_, fun _ => rfl⟩
 have HPF := hid hPF
 have hF0 : (PF ps.length ++ [123, 10] ++ (aL nd (cH nd 24) 0 [32, 32] nd.length).1 ++ [125, 10], decide (0 ≤ (aL nd (cH nd 24) 0 [32, 32] nd.length).2)) = F := by rw [← hF, ← hPF, List.take_length]
 have HF := hk_ hF0 hPN htl
 clear hF hF0 hPF hPN htl h1 l1 hT
 go_wp2_with fail
 clear b0 b1 b2 e1 e2
 go_loopg [4, 5] (ps.length + 1) (fun q s4 s5 wr => ∃ i : Nat, s4 = .string (str (PF i)) ∧ s5 = .int .i64 (i : Nat) ∧ i ≤ ps.length ∧ ps.length - i < q ∧ Below w2.heap.size w2 wr)
 case atStart => exact ⟨0, by rw [← HPF.out 0]; simp [bs], rfl, h_ _, by omega, J_ _ _⟩
 case round =>
  obtain ⟨i, rfl, rfl, hin, hiq, hb⟩ := hrel
  obtain ⟨gk, rfl⟩ := pk_ gk 1 (by omega)
  have hbx := (hb.block K hkl).trans HX.out.1
  have hkl2 := ab hbx
  obtain ⟨⟨b0, b1, b2⟩, _⟩ := bx hbx
  have hi0 : (0 : Int) ≤ i := by omega
  have hpl := HPS.out i
  have htl := HF.out.2.2
  have hpl2 : (PF i).length ≤ 400000 := by rw [← HPF.out i, O_]; omega
  have hrow : iq P wr ⟨rn, ps, nd⟩ pA pc nA nc := HH.out.below (HX.out.2.trans (hb.mono HX.out.2.size))
  by_cases hlt : i < ps.length
  ·have hiz : (i : Int) < ps.length := by omega
   obtain ⟨ad, rfl, c0, c1, c2, hcl⟩ := gb hrow.prms i hlt
   obtain ⟨p, hp⟩ := nm_ (ps[i])
   have hpn := HF.out.2.1 p (hp ▸ g_ hlt)
   have hst : PF (i + 1) = PF i ++ mZ p := by
    rw [← HPF.out, ← HPF.out, Z_ hlt, hp]
    simp [bs]
   simp only at c0 c1 c2
   rw [hp] at c0 c1 c2
   obtain ⟨pn, pv, pq⟩ := p
   simp only at c0 c1 c2 hpn
   unfold mZ at hst
   simp only at hst
   have hil := Lib.itoa_length_le pv hpn.2.1 hpn.2.2
   have HSH := hid (fun W => vo pv W hpn.2)
   obtain ⟨iv, hiv⟩ := nm_ (Lib.itoa pv)
   simp only [hiv] at hst hil HSH
   obtain ⟨q0, hq0⟩ := nm_ (PF i ++ [112, 97, 114, 97, 109, 32])
   have l0 : q0.length = (PF i).length + 6 := by rw [← hq0]; simp
   obtain ⟨q1, hq1⟩ := nm_ (q0 ++ dh pn)
   have l1 : q1.length = q0.length + pn.size := by rw [← hq1, O_, bm]
   obtain ⟨q2, hq2⟩ := nm_ (q1 ++ [32, 58, 61, 32])
   have l2 : q2.length = q1.length + 4 := by rw [← hq2]; simp
   obtain ⟨q3, hq3⟩ := nm_ (q2 ++ iv)
   have l3 : q3.length = q2.length + iv.length := by rw [← hq3, O_]
   obtain ⟨q4, hq4⟩ := nm_ (q3 ++ [32, 115, 99, 97, 108, 101, 100])
   have l4 : q4.length = q3.length + 7 := by rw [← hq4]; simp
   have hps := hpn.1
   have e0 : ∀ W, (Op.stringOp .add (str (PF i)) ⟨#[112, 97, 114, 97, 109, 32]⟩).run prog W = .ok (.string (str q0)) W := fun W => by rw [← hq0]; exact aq (PF i) [112, 97, 114, 97, 109, 32] (by simp; omega) W
   have e1 : ∀ W, (Op.stringOp .add (str q0) pn).run prog W = .ok (.string (str q1)) W := fun W => by
    have := aq q0 (dh pn) (by rw [bm]; omega) W
    rw [hq1] at this
    rwa [show str (dh pn) = pn from bT pn] at this
   have e2 : ∀ W, (Op.stringOp .add (str q1) ⟨#[32, 58, 61, 32]⟩).run prog W = .ok (.string (str q2)) W := fun W => by rw [← hq2]; exact aq q1 [32, 58, 61, 32] (by simp; omega) W
   have e3 : ∀ W, (Op.stringOp .add (str q2) (str iv)).run prog W = .ok (.string (str q3)) W := fun W => by rw [← hq3]; exact aq q2 iv (by omega) W
   have e4 : ∀ W, (Op.stringOp .add (str q3) ⟨#[32, 115, 99, 97, 108, 101, 100]⟩).run prog W = .ok (.string (str q4)) W := fun W => by rw [← hq4]; exact aq q3 [32, 115, 99, 97, 108, 101, 100] (by simp; omega) W
   have hz0 : pq = false → q3 ++ [59, 10] = PF (i + 1) := fun h => by rw [hst, ← hq3, ← hq2, ← hq1, ← hq0, h]; simp
   have hz1' : pq = true → q4 ++ [59, 10] = PF (i + 1) := fun h => by rw [hst, ← hq4, ← hq3, ← hq2, ← hq1, ← hq0, h]; simp
   have HE := hj_ hz0 hz1'
   have HBR := hj_ hb hbx
   clear hst hq0 hq1 hq2 hq3 hq4 hiv hp hrow hb hbx hz0 hz1' hpn hpl htl
   cases pq with
   | false =>
    have e5 : ∀ W, (Op.stringOp .add (str q3) ⟨#[59, 10]⟩).run prog W = .ok (.string (str (PF (i + 1)))) W := fun W => by rw [← HE.out.1 rfl]; exact aq q3 [59, 10] (by simp; omega) W
    clear l0 l1 l2 l3 l4 hpl2 hil hps
    go_wp2_with fail
    go_region_with (go_at_call 43; refine (HSH.out _).mono ?_; rintro r w9 ⟨rfl, rfl⟩)
    all_goals
     go_wp2_with fail
     go_roundg gk
     case measure => omega
     case rel => exact ⟨i + 1, rfl, by go_num, by omega, by omega, by first | exact HBR.out.1 | exact HBR.out.1.drew⟩
   | true =>
    have e5 : ∀ W, (Op.stringOp .add (str q4) ⟨#[59, 10]⟩).run prog W = .ok (.string (str (PF (i + 1)))) W := fun W => by rw [← HE.out.2 rfl]; exact aq q4 [59, 10] (by simp; omega) W
    clear l0 l1 l2 l3 l4 hpl2 hil hps
    go_wp2_with fail
    go_region_with (go_at_call 43; refine (HSH.out _).mono ?_; rintro r w9 ⟨rfl, rfl⟩)
    all_goals
     go_wp2_with fail
     go_roundg gk
     case measure => omega
     case rel => exact ⟨i + 1, rfl, by go_num, by omega, by omega, by first | exact HBR.out.1 | exact HBR.out.1.drew⟩
  ·obtain rfl : i = ps.length := by omega
   have hlt' : ¬ ((ps.length : Int) < ps.length) := by omega
   have hll := (HPL.out nd.length (by omega)).1
   have HC := hid (HPX.out 0 [32, 32] nd.length wr (by omega) (by omega) (by omega) (by decide) (by omega) (by omega) (HX.out.2.trans (hb.mono HX.out.2.size)))
   have hF := HF.out.1
   obtain ⟨⟨pt, pl⟩, hpp⟩ : ∃ p, aL nd (cH nd 24) 0 [32, 32] nd.length = p := ⟨_, rfl⟩
   rw [hpp] at hF hll HC
   simp only at hF hll HC
   have hpz := qw pl
   have hptl : pt.length ≤ 300000000000 := by omega
   obtain ⟨q0, hq0⟩ := nm_ (PF ps.length ++ [123, 10])
   have l0 : q0.length = (PF ps.length).length + 2 := by rw [← hq0]; simp
   obtain ⟨q1, hq1⟩ := nm_ (q0 ++ pt)
   have l1 : q1.length = q0.length + pt.length := by rw [← hq1, O_]
   obtain ⟨q2, hq2⟩ := nm_ (q1 ++ [125, 10])
   rw [hq0, hq1, hq2] at hF
   have e0 : ∀ W, (Op.stringOp .add (str (PF ps.length)) ⟨#[123, 10]⟩).run prog W = .ok (.string (str q0)) W := fun W => by rw [← hq0]; exact aq (PF ps.length) [123, 10] (by simp; omega) W
   have e1 : ∀ W, (Op.stringOp .add (str q0) (str pt)).run prog W = .ok (.string (str q1)) W := fun W => by rw [← hq1]; exact aq q0 pt (by omega) W
   have e2 : ∀ W, (Op.stringOp .add (str q1) ⟨#[125, 10]⟩).run prog W = .ok (.string (str q2)) W := fun W => by rw [← hq2]; exact aq q1 [125, 10] (by simp; omega) W
   have HBR := hid (HX.out.2.trans (hb.mono HX.out.2.size))
   have HFF := hid hF
   have hs : (⟨#[32, 32]⟩ : ByteArray) = str [32, 32] := rfl
   clear hF hq0 hq1 hq2 l0 l1 hpp hll hb hbx hrow hptl hpz hpl hpl2 htl hlt
   go_wp2_with (rw [hs])
   refine HC.out.mono ?_
   rintro e w5 ⟨rfl, hb5⟩
   have HB5 := tm_ HBR hb5
   clear hb5
   go_wp2_with fail
   refine L_ (v := .tuple #[.string (str q2), .bool (decide (0 ≤ pl))]) (by simp [results, results15, go_sem, *]) rfl ?_
   exact ⟨by rw [← HFF.out], hKK ▸ HB5.out⟩
end Go.Proofs.YtgcfjkfipkfijaaGreatDoor
