/- Part 18 of the proof of rtexts_card; no conditions. -/
import Derived.Test.YtgcfjkfipkfijaaGreatDoorTx17
import Derived.Test.YtgcfjkfipkfijaaGreatDoorTx10
import Derived.Test.YtgcfjkfipkfijaaGreatDoorTx03
import Derived.Test.YtgcfjkfipkfijaaGreatDoorTx07
import Derived.Test.YtgcfjkfipkfijaaGreatDoorTx05
import Derived.Test.YtgcfjkfipkfijaaGreatDoorTx16
import Derived.Test.YtgcfjkfipkfijaaGreatDoorTx01
import Derived.Test.YtgcfjkfipkfijaaGreatDoorTx11
import Derived.Deep.DeepCutAuto
import Derived.Deep.CutBlock
import Derived.ChangeAlike
import Derived.RegionTactic
import Derived.WalkKit
namespace Go.Proofs.YtgcfjkfipkfijaaGreatDoor
open Go Go.RowKit Go.Lib
theorem str_row {w : World} {k : Nat} {t : TypeId} (h : w.heap[k]? = some (.cells keyV t (0, 0))) : StrR w (some ⟨k, 0, none⟩) keyWords :=
 ⟨by decide, fun _ => ⟨k, 0, rfl, fun j hj => by
  have hj : j < 9 := hj
  rcases (show j = 0 ∨ j = 1 ∨ j = 2 ∨ j = 3 ∨ j = 4 ∨ j = 5 ∨ j = 6 ∨ j = 7 ∨ j = 8 by omega) with rfl | rfl | rfl | rfl | rfl | rfl | rfl | rfl | rfl <;> exact blk_cell h _⟩⟩
set_option maxHeartbeats 4000000 in
set_option maxRecDepth 100000 in
theorem ykey_any (t : Tok) (w : World) (hs : t.text.size ≤ 8192) :
  Calls Tryz.prog 61 #[tokV t] w fun e w' => e = .returned (.string (keyP t)) ∧ Below w.heap.size w w' := by
 obtain ⟨k, s, n, a⟩ := t
 obtain ⟨x, hx⟩ : ∃ x, keyP ⟨k, s, n, a⟩ = x := ⟨_, rfl⟩
 rw [hx]
 unfold keyP at hx
 simp only at hx hs
 have HF := Lib.hid (fun W => yfold_any s W (by omega))
 obtain ⟨f, hf⟩ : ∃ f, foldP s = f := ⟨_, rfl⟩
 rw [hf] at hx HF
 obtain ⟨w1, hw1, hb1, hx1, hy1⟩ := two_box (w := w) (cs := #[.int .i64 k, .string s, .int .i64 n, .int .i64 a]) (ds := keyV) (t := 60) (u := 9)
 have HX := Lib.hid (⟨hx, hx1, hy1⟩ : _ ∧ _ ∧ _)
 have HB := Lib.hid hb1
 have HW1 := Lib.hid hw1
 obtain ⟨x0, x1, _, _⟩ := blk4a hx1
 have hlx := blk_lt hx1
 clear hx hf hx1 hy1 hb1 hw1
 go_enter Tryz.func61, Tryz.ntmps61
 go_upto_region 2 with fail
 rw [HW1.out]
 go_wp2_with fail
 refine (HF.out w1).mono ?_
 rintro e w2 ⟨rfl, hb2⟩
 have H2 := Lib.hid (⟨HB.out.trans (hb2.mono HB.out.size), (hb2.block _ hlx).trans HX.out.2.1, (hb2.block _ (blk_lt HX.out.2.2)).trans HX.out.2.2⟩ : _ ∧ _ ∧ _)
 clear hb2 x0 x1 hlx
 obtain ⟨x0, x1, _, _⟩ := blk4a H2.out.2.1
 have hlx := blk_lt H2.out.2.1
 by_cases hk : k = 1
 ·subst hk
  go_wp2_with fail
  refine (yplace_any (str_row H2.out.2.2) 9 f).mono ?_
  rintro e w3 ⟨z, rfl, hz, hb3⟩
  have HB3 := Lib.hid (H2.out.1.trans (hb3.mono H2.out.1.size))
  have HXX := HX.out.1
  clear hb3 x0 x1 hlx
  by_cases hz0 : 0 ≤ z
  ·rw [if_pos ⟨by trivial, hz.1 hz0⟩] at HXX
   have HQ := Lib.hid HXX
   clear hz HXX
   go_wp2_with fail
   go_ret
   exact ⟨by rw [← HQ.out]; rfl, HB3.out⟩
  ·rw [if_neg (fun hc => hz0 (hz.2 hc.2))] at HXX
   have HQ := Lib.hid HXX
   clear hz HXX
   go_wp2_with fail
   go_ret
   exact ⟨by rw [← HQ.out]; rfl, HB3.out⟩
 ·have t1 := beqf hk
  have HXX := HX.out.1
  rw [if_neg (fun hc => hk hc.1)] at HXX
  have HQ := Lib.hid HXX
  clear HXX hk
  go_wp2_with fail
  go_ret
  exact ⟨by rw [← HQ.out]; rfl, H2.out.1⟩
abbrev RT := Value × Value × Value
def XdP (w : World) (g : Nat) (A : Option Addr) (n c : Nat) (s : RS) (t : RT) : Prop :=
 w.heap[g]? = some (.cells #[.slice A n c, .int .i64 s.at_, .int .i64 s.bad, t.1, t.2.1, t.2.2] 67 (0, 0))
structure Xdr (l : List Tok) (g : Nat) (A : Option Addr) (c : Nat) (w : World) (s : RS) (t : RT) : Prop where
 rd : XdP w g A l.length c s t
 row : RowF tokK (fun k => g ≤ k) w A c l
 inr : InR l s
theorem blk6 {w : World} {k : Nat} {v0 v1 v2 v3 v4 v5 : Value} {t : TypeId} (h : w.heap[k]? = some (.cells #[v0, v1, v2, v3, v4, v5] t (0, 0))) :
  (w.cell? ⟨k, 0, none⟩ = some v0 ∧ w.cell? ⟨k, 1, none⟩ = some v1 ∧ w.cell? ⟨k, 2, none⟩ = some v2 ∧ w.cell? ⟨k, 3, none⟩ = some v3 ∧ w.cell? ⟨k, 4, none⟩ = some v4 ∧ w.cell? ⟨k, 5, none⟩ = some v5) ∧
  (w.frozen? ⟨k, 1, none⟩ = false ∧ w.frozen? ⟨k, 2, none⟩ = false ∧ w.frozen? ⟨k, 4, none⟩ = false ∧ w.frozen? ⟨k, 5, none⟩ = false) :=
 ⟨⟨blk_cell h 0, blk_cell h 1, blk_cell h 2, blk_cell h 3, blk_cell h 4, blk_cell h 5⟩, Lib.frozen_of_heap h 1, Lib.frozen_of_heap h 2, Lib.frozen_of_heap h 4, Lib.frozen_of_heap h 5⟩
section
variable {l : List Tok} {g c : Nat} {A : Option Addr} {s s' : RS} {w w' : World} {t t' : RT}
theorem Xdr.lt (h : Xdr l g A c w s t) : g < w.heap.size := blk_lt h.rd
theorem Xdr.step (h : Xdr l g A c w s t) (hb : Below w.heap.size w w') : Xdr l g A c w' s t := ⟨(hb.block g h.lt).trans h.rd, h.row.below hb, h.inr⟩
theorem Xdr.next {M : List Nat} (h : Xdr l g A c w s t) (hr : XdP w' g A l.length c s' t') (hs : Same M w w') (hM : ∀ k, k ∈ M → g ≤ k) (hi : InR l s') : Xdr l g A c w' s' t' := ⟨hr, h.row.keep hs hM, hi⟩
abbrev XStp (g : Nat) (A : Option Addr) (n c : Nat) (v : Value) (s' : RS) (t : RT) (w : World) (r : Ending) (w' : World) : Prop := r = .returned v ∧ XdP w' g A n c s' t ∧ Same [g] w w'
def nextT (l : List Tok) (s : RS) : Tok := if s.bad = 0 then tokAt l s.at_ else zTok
set_option maxHeartbeats 4000000 in
set_option maxRecDepth 100000 in
theorem ynext_any (h : Xdr l g A c w s t) : Calls Tryz.prog 60 #[.pointer (some ⟨g, 0, none⟩)] w fun r w' => r = .returned (tokV (nextT l s)) ∧ Below w.heap.size w w' := by
 have hg := h.lt
 obtain ⟨w1, hw1⟩ : ∃ w1, (w.alloc (.cells #[.int .i64 0, .string ⟨#[]⟩, .int .i64 0, .int .i64 0] 60 (0, 0))) = w1 := ⟨_, rfl⟩
 have hb1 : Below w.heap.size w w1 := hw1 ▸ (Below.refl _ _).alloc (Nat.le_refl _) _
 have hbb : w1.heap[w.heap.size]? = some (.cells #[.int .i64 0, .string ⟨#[]⟩, .int .i64 0, .int .i64 0] 60 (0, 0)) := hw1 ▸ heap_alloc_new _ _
 have h1 := h.step hb1
 obtain ⟨⟨q0, q1, q2, q3, q4, q5⟩, _⟩ := blk6 h1.rd
 have HB := Lib.hid hb1
 have HW1 := Lib.hid hw1
 have hg1 := h1.lt
 obtain ⟨⟨z0, z1, z2, z3⟩, f0, f1, f2, f3⟩ := blk4 hbb
 have hlz := blk_lt hbb
 by_cases hb : s.bad = 0
 ·have HN : Hid (nextT l s = tokAt l s.at_) := Lib.hid (if_pos hb)
  obtain ⟨at_, bad, nodes⟩ := s
  obtain ⟨k, rfl⟩ := Int.eq_ofNat_of_zero_le (show 0 ≤ at_ from h.inr.1)
  have hk : k < l.length := by have := h.inr.2.1; simp only at this; omega
  have hrow := h1.row.2 [] (by simp)
  obtain ⟨ad, rfl⟩ := row_some0 hrow (by omega)
  obtain ⟨x0, x1, x2, x3⟩ := tok_some hrow k hk
  have hlt := World.block_lt_of_cell? w1 _ x0
  have hm := hrow.1
  have HX := Lib.hid (tokAt_get hk)
  have hkz : (k : Int) < l.length := by omega
  have hk0 : (0 : Int) ≤ k := by omega
  have hlcz : (l.length : Int) ≤ c := by have := h.row.1; omega
  simp only at hb q1 q2
  subst hb
  clear h h1 hrow hb1 hbb hw1
  go_enter Tryz.func60, Tryz.ntmps60
  go_upto_region 1 with fail
  rw [HW1.out]
  go_wp2_with fail
  go_region_with (fail)
  all_goals
   go_wp2
   refine bodyPost_ret (v := tokV l[k]) (by simp [results, Tryz.results60, go_sem, *]) rfl ⟨by rw [HN.out]; exact congrArg (fun q => Ending.returned (tokV q)) HX.out.symm, ?_⟩
   exact Below.drew (below_set4' HB.out (Nat.le_refl _) _ _ _ _)
 ·have HN : Hid (nextT l s = zTok) := Lib.hid (if_neg hb)
  have t1 := beqf hb
  have t2 := bne_of t1
  clear h h1 hb1 hbb hw1 hb
  go_enter Tryz.func60, Tryz.ntmps60
  go_upto_region 1 with fail
  rw [HW1.out]
  go_wp2_with fail
  refine bodyPost_ret (v := tokV zTok) (by simp [results, Tryz.results60, go_sem, zTok, *]) rfl ⟨by rw [HN.out], ?_⟩
  exact below_set4' HB.out (Nat.le_refl _) _ _ _ _
end
end Go.Proofs.YtgcfjkfipkfijaaGreatDoor
namespace Go.Proofs.YtgcfjkfipkfijaaGreatDoor
open Go Go.RowKit Go.Lib
theorem nextT_text {l : List Tok} (T : Toks l) (s : RS) : (nextT l s).text.size ≤ 8192 := by
 unfold nextT
 split
 ·exact T.text s.at_
 ·exact Nat.zero_le _
def isX (x : ByteArray) (u : Tok) : Bool := seq (keyP u) x || (u.kind == 4 && seq u.text x)
theorem takes_isX {l : List Tok} {x : ByteArray} {s : RS} (hx : x.size ≠ 0) : (rTakes l x s).1 = isX x (nextT l s) := by
 unfold rTakes rIsKey rIsSign nextT isX
 by_cases hb : s.bad = 0
 ·have hb1 : (s.bad == 0) = true := beq_iff_eq.2 hb
  rw [if_pos hb, hb1, Bool.true_and, Bool.true_and]
  cases h : (seq (keyP (tokAt l s.at_)) x || (tokAt l s.at_).kind == 4 && seq (tokAt l s.at_).text x)
  ·rfl
  ·rfl
 ·rw [if_neg hb, beqf hb, Bool.false_and, Bool.false_and]
  have h1 : seq (keyP zTok) x = false := by
   refine Bool.eq_false_iff.2 (fun hc => hx ?_)
   rw [seq_iff] at hc
   rw [← hc]
   rfl
  rw [h1]
  rfl
section
variable {l : List Tok} {g c : Nat} {A : Option Addr} {s s' : RS} {w w' : World} {t t' : RT}
theorem Xdr.put (h : Xdr l g A c w s t) (i : Nat) (v : Value) : (w.setCell ⟨g, i, none⟩ v).heap[g]? = some (.cells ((#[.slice A l.length c, .int .i64 s.at_, .int .i64 s.bad, t.1, t.2.1, t.2.2] : Array Value).setIfInBounds i v) 67 (0, 0)) := blk_set h.rd i v
set_option maxHeartbeats 4000000 in
set_option maxRecDepth 100000 in
theorem yfail_any (h : Xdr l g A c w s t) (e : Int) : Calls Tryz.prog 38 #[.pointer (some ⟨g, 0, none⟩), .int .i64 e] w (XStp g A l.length c (.tuple #[]) (rFail e s) t w) := by
 obtain ⟨⟨q0, q1, q2, q3, q4, q5⟩, f1, f2, _⟩ := blk6 h.rd
 have hg := h.lt
 have H := Lib.hid h
 by_cases hb : s.bad = 0
 ·have hb1 : (s.bad == 0) = true := beq_iff_eq.2 hb
  have hr : rFail e s = { s with bad := e } := if_pos hb
  have HR := Lib.hid hr
  clear h hr hb
  go_enter Tryz.func38, Tryz.ntmps38
  go_wp2_with fail
  go_end0
  exact ⟨rfl, by rw [HR.out]; exact H.out.put 2 _, (Same.refl [g] w).setCell (.inl (by simp)) _⟩
 ·have hb1 := beqf hb
  have hr : rFail e s = s := if_neg hb
  have HR := Lib.hid hr
  clear h hr hb
  go_enter Tryz.func38, Tryz.ntmps38
  go_wp2_with fail
  go_end0
  exact ⟨rfl, by rw [HR.out]; exact H.out.rd, Same.refl [g] w⟩
set_option maxHeartbeats 4000000 in
set_option maxRecDepth 100000 in
theorem yis_any (T : Toks l) (h : Xdr l g A c w s t) (x : ByteArray) (hx : x.size ≠ 0) : Calls Tryz.prog 35 #[.pointer (some ⟨g, 0, none⟩), .string x] w fun r w' => r = .returned (.bool (rTakes l x s).1) ∧ Below w.heap.size w w' := by
 rw [takes_isX hx]
 have HN := Lib.hid (ynext_any h)
 have hts := nextT_text T s
 obtain ⟨u, hu⟩ : ∃ u, nextT l s = u := ⟨_, rfl⟩
 rw [hu] at HN hts ⊢
 obtain ⟨k, tx, tn, ta⟩ := u
 have HK := Lib.hid (fun W => ykey_any ⟨k, tx, tn, ta⟩ W hts)
 obtain ⟨kw, hkw⟩ : ∃ y, keyP ⟨k, tx, tn, ta⟩ = y := ⟨_, rfl⟩
 rw [hkw] at HK
 obtain ⟨ANS, hA⟩ : ∃ b, isX x ⟨k, tx, tn, ta⟩ = b := ⟨_, rfl⟩
 rw [hA]
 unfold isX at hA
 rw [hkw] at hA
 simp only at hA
 have HA := Lib.hid hA
 clear h hu hkw hA hts
 go_enter Tryz.func35, Tryz.ntmps35
 go_wp2_with fail
 refine HN.out.mono ?_
 rintro r w1 ⟨rfl, hb1⟩
 obtain ⟨w2, hw2⟩ : ∃ w', w1.alloc (.cells #[.int .i64 k, .string tx, .int .i64 tn, .int .i64 ta] 60) = w' := ⟨_, rfl⟩
 have hb2 : Below w1.heap.size w1 w2 := hw2 ▸ (Below.refl _ _).alloc (Nat.le_refl _) _
 have hx2 : w2.heap[w1.heap.size]? = some (.cells #[.int .i64 k, .string tx, .int .i64 tn, .int .i64 ta] 60 (0, 0)) := hw2 ▸ heap_alloc_new _ _
 obtain ⟨x0, x1, x2, x3⟩ := blk4a hx2
 have hlx := blk_lt hx2
 have H2 := Lib.hid (⟨hb1.trans (hb2.mono hb1.size), hx2⟩ : _ ∧ _)
 have HW2 := Lib.hid hw2
 clear hb1 hb2 hx2 hw2
 go_upto_region 2 with fail
 rw [HW2.out]
 go_wp2_with fail
 refine (HK.out w2).mono ?_
 rintro r w3 ⟨rfl, hb3⟩
 have H3 := Lib.hid (⟨H2.out.1.trans (hb3.mono H2.out.1.size), (hb3.block _ hlx).trans H2.out.2⟩ : _ ∧ _)
 clear hb3 x0 x1 x2 x3 hlx
 obtain ⟨x0, x1, _, _⟩ := blk4a H3.out.2
 have hlx := blk_lt H3.out.2
 by_cases h1 : kw = x
 ·have HQ : Hid (ANS = true) := Lib.hid (by rw [← HA.out, show seq kw x = true from seq_iff.2 h1]; rfl)
  subst h1
  go_wp2_with fail
  go_ret
  exact ⟨by rw [HQ.out]; rfl, H3.out.1⟩
 ·obtain ⟨t1, t3⟩ := str_ne h1
  have h2 : seq kw x = false := Bool.eq_false_iff.2 (fun hc => h1 (seq_iff.1 hc))
  by_cases h4 : k = 4
  ·subst h4
   by_cases h5 : tx = x
   ·have HQ : Hid (ANS = true) := Lib.hid (by rw [← HA.out, h2, show seq tx x = true from seq_iff.2 h5]; rfl)
    subst h5
    clear h1 h2
    go_wp2_with fail
    go_ret
    exact ⟨by rw [HQ.out]; rfl, H3.out.1⟩
   ·have HQ : Hid (ANS = false) := Lib.hid (by rw [← HA.out, h2, show seq tx x = false from Bool.eq_false_iff.2 (fun hc => h5 (seq_iff.1 hc))]; rfl)
    obtain ⟨t5, t6⟩ := str_ne h5
    clear h1 h2 h5
    go_wp2_with fail
    go_ret
    exact ⟨by rw [HQ.out]; rfl, H3.out.1⟩
  ·have t4 := beqf h4
   have HQ : Hid (ANS = false) := Lib.hid (by rw [← HA.out, h2, t4]; rfl)
   clear h1 h2 h4
   go_wp2_with fail
   go_ret
   exact ⟨by rw [HQ.out]; rfl, H3.out.1⟩
set_option maxHeartbeats 4000000 in
set_option maxRecDepth 100000 in
theorem ymust_any (T : Toks l) (h : Xdr l g A c w s t) (x : ByteArray) (hx : x.size ≠ 0) : Calls Tryz.prog 33 #[.pointer (some ⟨g, 0, none⟩), .string x] w (XStp g A l.length c (.tuple #[]) (rMust l x s) t w) := by
 have HI := Lib.hid (yis_any T h x hx)
 have H := Lib.hid h
 have h1 := h.inr.1
 have h2 := h.inr.2.1
 have h3 := (h.row.2 [] (by simp)).1
 have hadd : IntKind.i64.wrap (s.at_ + 1) = s.at_ + 1 := IntWalk.i64_in _ (by omega)
 have hm : rMust l x s = if (rTakes l x s).1 = true then rPass s else rFail 11 s := by
  unfold rMust rTakes
  by_cases hc : (rIsKey l x s || rIsSign l x s) = true
  ·rw [if_pos hc]; rfl
  ·rw [if_neg hc]; rfl
 obtain ⟨b, hb⟩ : ∃ b, (rTakes l x s).1 = b := ⟨_, rfl⟩
 rw [hb] at HI hm
 obtain ⟨m, hmm⟩ : ∃ m, rMust l x s = m := ⟨_, rfl⟩
 rw [hmm] at hm ⊢
 have HM := Lib.hid hm
 clear h hb hm hmm
 go_enter Tryz.func33, Tryz.ntmps33
 go_wp2_with fail
 refine HI.out.mono ?_
 rintro r w1 ⟨rfl, hb1⟩
 have H1 := Lib.hid (⟨H.out.step hb1, hb1⟩ : _ ∧ _)
 clear hb1
 cases b
 ·go_wp2_with fail
  refine (yfail_any H1.out.1 11).mono ?_
  rintro r w2 ⟨rfl, h2, h3⟩
  have H2 := Lib.hid (⟨h2, (Same.of_below H1.out.2).then_ h3⟩ : XdP w2 g A l.length c (rFail 11 s) t ∧ Same [g] w w2)
  clear h2 h3
  go_wp2_with fail
  go_end0
  exact ⟨rfl, by rw [HM.out]; exact H2.out.1, H2.out.2⟩
 ·obtain ⟨⟨q0, q1, q2, q3, q4, q5⟩, f1, f2, _⟩ := blk6 H1.out.1.rd
  have hg := H1.out.1.lt
  go_wp2_with fail
  go_end0
  exact ⟨rfl, by rw [HM.out]; exact H1.out.1.put 1 _, (Same.of_below H1.out.2).setCell (.inl (by simp)) _⟩
end
end Go.Proofs.YtgcfjkfipkfijaaGreatDoor
namespace Go.Proofs.YtgcfjkfipkfijaaGreatDoor
open Go Go.RowKit Go.Lib
section
variable {l : List Tok} {g c : Nat} {A : Option Addr} {s s' : RS} {w w' : World} {t t' : RT}
set_option maxHeartbeats 8000000 in
set_option maxRecDepth 100000 in
theorem yname_any (T : Toks l) (h : Xdr l g A c w s t) {a : Option Addr} {cc : Nat} {had : List ByteArray} (hh : StrR w a had) (most : Int) (hm : (had.length : Int) ≤ most) :
  Calls Tryz.prog 34 #[.pointer (some ⟨g, 0, none⟩), .slice a had.length cc, .int .i64 most] w (XStp g A l.length c (.string (rName l had (rMost l had.length most s)).1) (rName l had (rMost l had.length most s)).2 t w) := by
 have HN := Lib.hid (ynext_any h)
 have hts := nextT_text T s
 obtain ⟨R, hR⟩ : ∃ r, rName l had (rMost l had.length most s) = r := ⟨_, rfl⟩
 rw [hR]
 have h1 := h.inr.1
 have h2 := h.inr.2.1
 have h3 := (h.row.2 [] (by simp)).1
 have hhm := hh.1
 have hadd : IntKind.i64.wrap (s.at_ + 1) = s.at_ + 1 := IntWalk.i64_in _ (by omega)
 obtain ⟨u, hu⟩ : ∃ u, nextT l s = u := ⟨_, rfl⟩
 have rA : ¬ (u.kind = 1 ∧ keyP u = ⟨#[]⟩) → R = (⟨#[]⟩, rFail 11 s) := fun hc => by
  by_cases hb : s.bad = 0
  ·have hun : rNamed l s = false := by
    unfold nextT at hu
    rw [if_pos hb] at hu
    unfold rNamed
    rw [hu]
    refine Bool.eq_false_iff.2 (fun hd => hc ?_)
    rw [Bool.and_eq_true, beq_iff_eq, beq_iff_eq] at hd
    exact ⟨hd.1, size0 hd.2⟩
   have hmo : rMost l had.length most s = s := by unfold rMost; rw [if_neg (fun hd => by rw [hun] at hd; exact absurd hd.2 (by decide))]
   rw [← hR, hmo]
   unfold rName
   rw [if_neg (by simpa using hb), if_pos hun]
  ·have hmo : rMost l had.length most s = s := by
    unfold rMost
    split
    ·exact if_neg hb
    ·rfl
   rw [← hR, hmo]
   unfold rName
   rw [if_pos hb]
   unfold rFail
   rw [if_neg hb]
 have rB : u.kind = 1 → keyP u = ⟨#[]⟩ → s.bad = 0 ∧ u = tokAt l s.at_ ∧ rNamed l s = true := fun hk hw => by
  by_cases hb : s.bad = 0
  ·unfold nextT at hu
   rw [if_pos hb] at hu
   refine ⟨hb, hu.symm, ?_⟩
   unfold rNamed
   rw [hu, hk, hw]
   rfl
  ·unfold nextT at hu
   rw [if_neg hb] at hu
   rw [← hu] at hk
   exact absurd hk (by decide)
 have rC : u.kind = 1 → keyP u = ⟨#[]⟩ → most ≤ had.length → R = (⟨#[]⟩, rFail 2 s) := fun hk hw hl => by
  obtain ⟨hb, _, hn⟩ := rB hk hw
  have hmo : rMost l had.length most s = rFail 2 s := by unfold rMost; rw [if_pos ⟨by omega, hn⟩]
  rw [← hR, hmo]
  unfold rName
  rw [if_pos (rFail_bad (by decide) s)]
 have rD : u.kind = 1 → keyP u = ⟨#[]⟩ → ¬ most ≤ had.length → R = if inB u.text had = true then (⟨#[]⟩, rFail 5 s) else (u.text, rPass s) := fun hk hw hl => by
  obtain ⟨hb, hu', hn⟩ := rB hk hw
  have hmo : rMost l had.length most s = s := by unfold rMost; rw [if_neg (fun hd => by omega)]
  rw [← hR, hmo, hu']
  unfold rName
  rw [if_neg (by simpa using hb), if_neg (by rw [hn]; decide)]
 obtain ⟨k, tx, tn, ta⟩ := u
 rw [hu] at HN hts
 have HK := Lib.hid (fun W => ykey_any ⟨k, tx, tn, ta⟩ W hts)
 have HP := Lib.hid (fun W (hb : Below w.heap.size w W) => yplace_any (hh.step hb) cc tx)
 have HFL := Lib.hid (fun W (hb : Below w.heap.size w W) e => yfail_any (h.step hb) e)
 obtain ⟨kw, hkw⟩ : ∃ y, keyP ⟨k, tx, tn, ta⟩ = y := ⟨_, rfl⟩
 rw [hkw] at HK rA rB rC rD
 simp only at rA rB rC rD
 have H := Lib.hid h
 have HA := Lib.hid rA
 have HC := Lib.hid rC
 have HD := Lib.hid rD
 clear h hu hkw hts rA rB rC rD hR hh
 have fin : ∀ (W w9 : World) (x : Int) (s9 : RS), Below w.heap.size w W → R = (⟨#[]⟩, s9) → XStp g A l.length c (.tuple #[]) s9 t W (.returned (.tuple #[])) w9 → XStp g A l.length c (.string R.1) R.2 t w (.returned (.string ⟨#[]⟩)) w9 := fun W w9 _ s9 hb hr hs => by
  rw [hr]
  exact ⟨rfl, hs.2.1, (Same.of_below hb).then_ hs.2.2⟩
 have FIN := Lib.hid fin
 clear fin
 go_enter Tryz.func34, Tryz.ntmps34
 go_wp2_with fail
 refine HN.out.mono ?_
 rintro r w1 ⟨rfl, hb1⟩
 obtain ⟨w2, hw2⟩ : ∃ w', w1.alloc (.cells #[.int .i64 k, .string tx, .int .i64 tn, .int .i64 ta] 60) = w' := ⟨_, rfl⟩
 have hb2 : Below w1.heap.size w1 w2 := hw2 ▸ (Below.refl _ _).alloc (Nat.le_refl _) _
 have hx2 : w2.heap[w1.heap.size]? = some (.cells #[.int .i64 k, .string tx, .int .i64 tn, .int .i64 ta] 60 (0, 0)) := hw2 ▸ heap_alloc_new _ _
 obtain ⟨x0, x1, x2, x3⟩ := blk4a hx2
 have hlx := blk_lt hx2
 have H2 := Lib.hid (⟨hb1.trans (hb2.mono hb1.size), hx2⟩ : _ ∧ _)
 have HW2 := Lib.hid hw2
 clear hb1 hb2 hx2 hw2
 go_upto_region 2 with fail
 rw [HW2.out]
 by_cases hk : k = 1
 ·subst hk
  go_wp2_with fail
  refine (HK.out w2).mono ?_
  rintro r w3 ⟨rfl, hb3⟩
  have H3 := Lib.hid (⟨H2.out.1.trans (hb3.mono H2.out.1.size), (hb3.block _ hlx).trans H2.out.2⟩ : _ ∧ _)
  clear hb3 x0 x1 x2 x3 hlx
  obtain ⟨x0, x1, _, _⟩ := blk4a H3.out.2
  have hlx := blk_lt H3.out.2
  by_cases hke : kw = ⟨#[]⟩
  ·subst hke
   by_cases hmo : most ≤ had.length
   ·have HR := Lib.hid (HC.out (by trivial) (by trivial) hmo)
    go_wp2_with fail
    refine (HFL.out w3 H3.out.1 2).mono ?_
    rintro r w4 ⟨rfl, h4⟩
    have H4 := Lib.hid h4
    clear h4
    go_wp2_with fail
    go_ret
    exact FIN.out w3 _ 0 _ H3.out.1 HR.out ⟨rfl, H4.out⟩
   ·have HRR := Lib.hid (HD.out (by trivial) (by trivial) (by omega))
    have hmb : decide (most ≤ (had.length : Int)) = false := decide_eq_false hmo
    have hlt : (had.length : Int) < most := by omega
    clear hmo hm
    go_wp2_with fail
    refine (HP.out w3 H3.out.1).mono ?_
    rintro r w4 ⟨z, rfl, hz, hb4⟩
    have H4 := Lib.hid (⟨H3.out.1.trans (hb4.mono H3.out.1.size), (hb4.block _ hlx).trans H3.out.2⟩ : _ ∧ _)
    clear hb4 x0 x1 hlx
    have hRR := HRR.out
    by_cases hz0 : 0 ≤ z
    ·rw [if_pos (hz.1 hz0)] at hRR
     have HR := Lib.hid hRR
     clear hz hRR
     go_wp2_with fail
     refine (HFL.out _ H4.out.1 5).mono ?_
     rintro r w5 ⟨rfl, h5⟩
     have H5 := Lib.hid h5
     clear h5
     go_wp2_with fail
     go_ret
     exact FIN.out w4 _ 0 _ H4.out.1 HR.out ⟨rfl, H5.out⟩
    ·rw [if_neg (fun hc => hz0 (hz.2 hc))] at hRR
     have HR := Lib.hid hRR
     have HX := Lib.hid (H.out.step H4.out.1)
     obtain ⟨⟨q0, q1, q2, q3, q4, q5⟩, f1, f2, _⟩ := blk6 HX.out.rd
     have hg := HX.out.lt
     obtain ⟨x0, x1, _, _⟩ := blk4a H4.out.2
     have hlx := blk_lt H4.out.2
     have hgne : g ≠ w1.heap.size := fun e => by
      have h6 := HX.out.rd
      rw [e] at h6
      have h7 := h6.symm.trans H4.out.2
      simp at h7
     have x1' : (w4.setCell ⟨g, 1, none⟩ (.int .i64 (s.at_ + 1))).cell? ⟨w1.heap.size, 1, none⟩ = some (.string tx) := ((Same.refl [g] w4).setCell (p := ⟨g, 1, none⟩) (.inl (by simp)) (.int .i64 (s.at_ + 1))).cell (by simp; exact fun e => hgne e.symm) x1
     clear hz hRR hgne
     go_wp2_with fail
     go_ret
     rw [HR.out]
     exact ⟨rfl, HX.out.put 1 _, (Same.of_below H4.out.1).setCell (.inl (by simp)) _⟩
  ·have HR := Lib.hid (HA.out (fun hc => hke hc.2))
   have e0 : kw.toList.isEmpty = false := by
    rw [Lib.toList_data, List.isEmpty_eq_false_iff]
    exact fun e => hke (ByteArray.ext (Array.toList_inj.1 e))
   have e1 : (!kw.toList.isEmpty) = true := by rw [e0]; rfl
   have e2 : (kw.toList = []) = False := by
    rw [eq_iff_iff, iff_false]
    exact fun e => by rw [e] at e0; exact absurd e0 (by decide)
   clear hke
   go_wp2_with fail
   refine (HFL.out w3 H3.out.1 11).mono ?_
   rintro r w4 ⟨rfl, h4⟩
   have H4 := Lib.hid h4
   clear h4
   go_wp2_with fail
   go_ret
   exact FIN.out w3 _ 0 _ H3.out.1 HR.out ⟨rfl, H4.out⟩
 ·have t1 := beqf hk
  have t2 := bne_of t1
  have HR := Lib.hid (HA.out (fun hc => hk hc.1))
  clear hk
  go_wp2_with fail
  refine (HFL.out w2 H2.out.1 11).mono ?_
  rintro r w4 ⟨rfl, h4⟩
  have H4 := Lib.hid h4
  clear h4
  go_wp2_with fail
  go_ret
  exact FIN.out w2 _ 0 _ H2.out.1 HR.out ⟨rfl, H4.out⟩
end
end Go.Proofs.YtgcfjkfipkfijaaGreatDoor
namespace Go.Proofs.YtgcfjkfipkfijaaGreatDoor
open Go Go.RowKit Go.Lib
theorem blk4' {w : World} {k : Nat} {v0 v1 v2 v3 : Value} {t : TypeId} (h : w.heap[k]? = some (.cells #[v0, v1, v2, v3] t (0, 0))) :
  (w.cell? ⟨k, 0, none⟩ = some v0 ∧ w.cell? ⟨k, 1, none⟩ = some v1 ∧ w.cell? ⟨k, 2, none⟩ = some v2 ∧ w.cell? ⟨k, 3, none⟩ = some v3) ∧ True :=
 ⟨⟨blk_cell h 0, blk_cell h 1, blk_cell h 2, blk_cell h 3⟩, trivial⟩
end Go.Proofs.YtgcfjkfipkfijaaGreatDoor
namespace Go.Proofs.YtgcfjkfipkfijaaGreatDoor
open Go Go.RowKit Go.Lib
set_option maxHeartbeats 1000000 in
theorem xline_any (op : Int) (w : World) : Calls Tryz.prog 143 #[.int .i64 op] w fun e w' => e = .returned (.int .i64 (eLine op)) ∧ w' = w := by
 go_enter Tryz.func143, Tryz.ntmps143
 go_wp2
 all_goals
  go_ret
  refine ⟨ret_int ?_, rfl⟩
  simp only [beq_iff_eq, beq_eq_false_iff_ne, ne_eq] at *
  unfold eLine
  (repeat (first | rw [if_pos (by omega)] | rw [if_neg (by omega)]))
def sg17 : Array Value := #[.string ⟨#[]⟩, .string ⟨#[]⟩, .string ⟨#[45]⟩, .string ⟨#[33]⟩, .string ⟨#[43]⟩, .string ⟨#[45]⟩, .string ⟨#[42]⟩, .string ⟨#[47]⟩, .string ⟨#[37]⟩, .string ⟨#[60]⟩, .string ⟨#[60, 61]⟩, .string ⟨#[62]⟩, .string ⟨#[62, 61]⟩, .string ⟨#[61, 61]⟩, .string ⟨#[33, 61]⟩, .string ⟨#[38]⟩, .string ⟨#[124]⟩]
theorem sg17_at (i : Nat) (h2 : 2 ≤ i) (h : i < 17) : sg17[i]? = some (.string (eSign i)) := by
 have hi : i = 2 ∨ i = 3 ∨ i = 4 ∨ i = 5 ∨ i = 6 ∨ i = 7 ∨ i = 8 ∨ i = 9 ∨ i = 10 ∨ i = 11 ∨ i = 12 ∨ i = 13 ∨ i = 14 ∨ i = 15 ∨ i = 16 := by omega
 rcases hi with rfl | rfl | rfl | rfl | rfl | rfl | rfl | rfl | rfl | rfl | rfl | rfl | rfl | rfl | rfl <;> rfl
set_option maxHeartbeats 2000000 in
set_option maxRecDepth 100000 in
theorem xsign_any (i : Nat) (h2 : 2 ≤ i) (h : i < 17) (w : World) : Calls Tryz.prog 128 #[.int .i64 i] w fun e w' => e = .returned (.string (eSign i)) ∧ Below w.heap.size w w' := by
 have hz : (i : Int) < 17 := by omega
 have hz0 : (0 : Int) ≤ i := by omega
 have hs := sg17_at i h2 h
 unfold sg17 at hs
 clear h2 h
 go_enter Tryz.func128, Tryz.ntmps128
 go_wp2_with fail
 go_ret
 exact ⟨rfl, (Below.refl _ _).alloc (Nat.le_refl _) _⟩
set_option maxHeartbeats 2000000 in
theorem xtoken_any (l : List Tok) (A : Option Addr) (c : Nat) (i : Int) (w : World) (hr : tokK.Row [] w A l) (hlc : l.length ≤ c) :
  Calls Tryz.prog 134 #[.slice A l.length c, .int .i64 i] w fun r w' => r = .returned (tokV (tokAt l i)) ∧ Below w.heap.size w w' := by
 have HR := Lib.hid hr
 have hm := hr.1
 clear hr
 by_cases h1 : i < 0
 ·have HX : Hid (tokAt l i = zTok) := by unfold tokAt; rw [if_pos (.inl h1)]; exact rfl
  have h1b : decide (i < 0) = true := decide_eq_true h1
  go_enter Tryz.func134, Tryz.ntmps134
  go_wp2_with fail
  refine bodyPost_ret (v := .agg #[.int .i64 0, .string ⟨#[]⟩, .int .i64 0, .int .i64 0]) (by simp [results, Tryz.results134, go_sem]) rfl ⟨by rw [HX.out]; rfl, ?_⟩
  exact (Below.refl _ _).alloc (Nat.le_refl _) _
 ·by_cases h2 : (l.length : Int) ≤ i
  ·have HX : Hid (tokAt l i = zTok) := by unfold tokAt; rw [if_pos (.inr h2)]; exact rfl
   have h1b : decide (i < 0) = false := decide_eq_false h1
   have h2b : decide ((l.length : Int) ≤ i) = true := decide_eq_true h2
   go_enter Tryz.func134, Tryz.ntmps134
   go_wp2_with fail
   refine bodyPost_ret (v := .agg #[.int .i64 0, .string ⟨#[]⟩, .int .i64 0, .int .i64 0]) (by simp [results, Tryz.results134, go_sem]) rfl ⟨by rw [HX.out]; rfl, ?_⟩
   exact (Below.refl _ _).alloc (Nat.le_refl _) _
  ·obtain ⟨k, rfl⟩ := Int.eq_ofNat_of_zero_le (show 0 ≤ i by omega)
   have hk : k < l.length := by omega
   obtain ⟨ad, rfl⟩ := row_some0 HR.out (by omega)
   obtain ⟨x0, x1, x2, x3⟩ := tok_some HR.out k hk
   have hlt := World.block_lt_of_cell? w _ x0
   have HX : Hid (tokAt l (k : Int) = l[k]) := by
    unfold tokAt
    rw [if_neg (by omega), Int.toNat_natCast, List.getD_eq_getElem?_getD, List.getElem?_eq_getElem hk]
    exact rfl
   have h1b : decide ((k : Int) < 0) = false := decide_eq_false h1
   have h2b : decide (l.length ≤ k) = false := decide_eq_false (by omega)
   have h2c : decide ((l.length : Int) ≤ (k : Int)) = false := decide_eq_false h2
   have hkz : (k : Int) < l.length := by omega
   have hk0 : (0 : Int) ≤ k := by omega
   have hlcz : (l.length : Int) ≤ c := by omega
   obtain ⟨t, ht⟩ : ∃ t, l[k] = t := ⟨_, rfl⟩
   rw [ht] at HX x0 x1 x2 x3
   clear h1 h2 ht
   go_enter Tryz.func134, Tryz.ntmps134
   go_wp2_with fail
   refine bodyPost_ret (v := tokV t) (by simp [results, Tryz.results134, go_sem, tokV]) rfl ⟨by rw [HX.out], ?_⟩
   exact (Below.refl _ _).alloc (Nat.le_refl _) _
set_option maxHeartbeats 2000000 in
theorem xis_any (t : Tok) (s : ByteArray) (w : World) :
  Calls Tryz.prog 151 #[tokV t, .string s] w fun r w' => r = .returned (.bool (t.kind == 4 && seq t.text s)) ∧ Below w.heap.size w w' := by
 obtain ⟨k, x, n, p⟩ := t
 unfold tokV
 by_cases hk : k = 4
 ·subst hk
  go_enter Tryz.func151, Tryz.ntmps151
  go_wp2_with fail
  go_ret
  exact ⟨ret_bool (by rw [show ((4 : Int) == 4 && seq x s) = seq x s from rfl]; unfold seq; rw [Lib.toList_data, Lib.toList_data]), (Below.refl _ _).alloc (Nat.le_refl _) _⟩
 ·have hkb : (k == 4) = false := by rw [beq_eq_false_iff_ne]; exact hk
  have HX : Hid ((k == 4 && seq x s) = false) := Lib.hid (by rw [hkb]; rfl)
  clear hk
  go_enter Tryz.func151, Tryz.ntmps151
  go_wp2_with fail
  go_ret
  exact ⟨ret_bool (by rw [HX.out]), (Below.refl _ _).alloc (Nat.le_refl _) _⟩
def twF (n : Int) (t : Tok) : Nat → Int → Int
 | 0, _ => -1
 | k + 1, op => if eLine op = n ∧ seq (eSign op) t.text = true then op else twF n t k (op + 1)
def twoX (n : Int) (t : Tok) : Int := if t.kind = 4 then twF n t 13 4 else -1
theorem twF_none {n : Int} {t : Tok} : ∀ (k : Nat) (a : Int), (∀ op, a ≤ op → op < a + k → ¬ (eLine op = n ∧ seq (eSign op) t.text = true)) → twF n t k a = -1
 | 0, _, _ => rfl
 | k + 1, a, h => by
  rw [twF, if_neg (h a (Int.le_refl _) (by omega))]
  exact twF_none k (a + 1) (fun op h1 h2 => h op (by omega) (by omega))
theorem twF_some {n : Int} {t : Tok} {op : Int} (hs : eLine op = n ∧ seq (eSign op) t.text = true) : ∀ (k : Nat) (a : Int), a ≤ op → op < a + k → (∀ o, a ≤ o → o < op → ¬ (eLine o = n ∧ seq (eSign o) t.text = true)) → twF n t k a = op
 | 0, _, h1, h2, _ => by omega
 | k + 1, a, h1, h2, h => by
  rw [twF]
  by_cases e : a = op
  ·subst e; rw [if_pos hs]
  ·rw [if_neg (h a (Int.le_refl _) (by omega))]
   exact twF_some hs k (a + 1) (by omega) (by omega) (fun o h1 h2 => h o (by omega) h2)
theorem twoX_isP (l : List Tok) (i : Int) (n : Nat) (h1 : 1 ≤ n) (h5 : n ≤ 5) : twoX n (tokAt l i) = match isP l (lo n) (hi n) ⟨i, 0⟩ with | none => -1 | some op => op := by
 by_cases h : ∃ op, 4 ≤ op ∧ op ≤ 16 ∧ eLine op = n ∧ Sgn op (tokAt l i)
 ·obtain ⟨op, h4, h16, hl, hs⟩ := h
  have hlo := line_lo op n h4 h16 hl
  rw [isP_some h1 h5 hlo.1 hlo.2.1 hs]
  unfold twoX
  rw [if_pos hs.1]
  exact twF_some ⟨hl, hs.2⟩ 13 4 h4 (by omega) (fun o ho1 ho2 ho3 => by
   have := sgn_inj ho1 (by omega) h4 h16 ⟨hs.1, ho3.2⟩ hs
   omega)
 ·have hno : isP l (lo n) (hi n) ⟨i, 0⟩ = none := by
   cases hp : isP l (lo n) (hi n) ⟨i, 0⟩ with
   | none => rfl
   | some op =>
    have hn : n = 1 ∨ n = 2 ∨ n = 3 ∨ n = 4 ∨ n = 5 := by omega
    have hlh : lo n ≤ hi n := by rcases hn with rfl | rfl | rfl | rfl | rfl <;> decide
    have his := isP_is hp hlh
    have hol := lo_line op n h1 h5 his.1 his.2.1
    exact absurd ⟨op, hol.1, hol.2.1, hol.2.2, his.2.2⟩ h
  rw [hno]
  unfold twoX
  split
  ·rename_i hk
   exact twF_none 13 4 (fun op ho1 ho2 ho3 => h ⟨op, ho1, by omega, ho3.1, hk, ho3.2⟩)
  ·rfl
set_option maxHeartbeats 4000000 in
set_option maxRecDepth 100000 in
theorem xtwo_any (n : Int) (t : Tok) (w : World) :
  Calls Tryz.prog 133 #[.int .i64 n, tokV t] w fun r w' => r = .returned (.int .i64 (twoX n t)) ∧ Below w.heap.size w w' := by
 obtain ⟨tk, tx, tn, tp⟩ := t
 unfold tokV
 obtain ⟨w0, hw0⟩ : ∃ w', w.alloc (.cells #[.int .i64 tk, .string tx, .int .i64 tn, .int .i64 tp] 60 (0, 0)) = w' := ⟨_, rfl⟩
 have hal : Below w.heap.size w w0 := hw0 ▸ (Below.refl _ _).alloc (Nat.le_refl _) _
 have hq : w0.heap[w.heap.size]? = some (.cells #[.int .i64 tk, .string tx, .int .i64 tn, .int .i64 tp] 60 (0, 0)) := hw0 ▸ heap_alloc_new _ _
 have HAL := Lib.hid hal
 have HQ := Lib.hid hq
 have HW0 := Lib.hid hw0
 clear hal hq hw0
 by_cases hk : tk = 4
 ·subst hk
  have HX : Hid (twoX n ⟨4, tx, tn, tp⟩ = twF n ⟨4, tx, tn, tp⟩ 13 4) := Lib.hid (if_pos rfl)
  obtain ⟨ANS, hANS⟩ : ∃ a, twF n ⟨4, tx, tn, tp⟩ 13 4 = a := ⟨_, rfl⟩
  have HANS := Lib.hid hANS
  clear hANS
  go_enter Tryz.func133, Tryz.ntmps133
  go_wp2_with fail
  rw [HW0.out]
  go_loopg [5] 14 (fun k s5 w' => ∃ op : Int, s5 = .int .i64 op ∧ 4 ≤ op ∧ op ≤ 17 ∧ (17 - op).toNat < k ∧ twF n ⟨4, tx, tn, tp⟩ (17 - op).toNat op = ANS ∧ Below w0.heap.size w0 w')
  case atStart => exact ⟨4, rfl, by decide, by decide, by decide, HANS.out, Below.refl _ _⟩
  case round =>
   obtain ⟨op, rfl, h4, h17, hok, hans, hbl⟩ := hrel
   obtain ⟨gk, rfl⟩ : ∃ k, gk = k + 1 := ⟨gk - 1, by omega⟩
   have HBW := Lib.hid hbl
   have hqr := (hbl.block _ (blk_lt HQ.out)).trans HQ.out
   have k1 : wr.cell? ⟨w.heap.size, 1, none⟩ = some (.string tx) := (blk_cell hqr 1).trans rfl
   have hlK := blk_lt hqr
   clear hbl
   by_cases hle : op ≤ 16
   ·obtain ⟨m, hm⟩ : ∃ m, (17 - op).toNat = m + 1 := ⟨(16 - op).toNat, by omega⟩
    have hm' : (17 - (op + 1)).toNat = m := by omega
    rw [hm, twF] at hans
    obtain ⟨o, rfl⟩ := Int.eq_ofNat_of_zero_le (show 0 ≤ op by omega)
    have HSG := Lib.hid (fun W => xsign_any o (by omega) (by omega) W)
    by_cases hl : eLine (o : Int) = n
    ·have hlb : (eLine (o : Int) == n) = true := beq_iff_eq.2 hl
     obtain ⟨q, hq⟩ : ∃ q, seq (eSign (o : Int)) tx = q := ⟨_, rfl⟩
     have hq' : ((eSign (o : Int)).toList == tx.toList) = q := by rw [Lib.toList_data, Lib.toList_data]; exact hq
     rw [show seq (eSign (o : Int)) (⟨4, tx, tn, tp⟩ : Tok).text = q from hq] at hans
     obtain ⟨sgn, hsgn⟩ : ∃ s, eSign (o : Int) = s := ⟨_, rfl⟩
     rw [hsgn] at HSG hq'
     have HL : Hid (∀ W, Calls Tryz.prog 143 #[.int .i64 o] W fun e w' => e = .returned (.int .i64 n) ∧ w' = W) := Lib.hid (fun W => by have := xline_any o W; rwa [hl] at this)
     have HN := Lib.hid (⟨hl, hans⟩ : _ ∧ _)
     have HM := Lib.hid hm'
     clear hl hlb hq hsgn hans hm hm'
     go_wp2_with fail
     go_cut [23] (fun s23 wx => s23 = .bool q ∧ Below wr.heap.size wr wx)
     case first =>
      go_region_with (first
       | (go_at_call 143; refine (HL.out _).mono ?_; rintro e w' ⟨rfl, rfl⟩)
       | (go_at_call 128; refine (HSG.out _).mono ?_; rintro e w5 ⟨rfl, hb5⟩; have z1 := (hb5.cell (p := ⟨w.heap.size, 1, none⟩) hlK).trans k1; have HB5 := Lib.hid hb5; clear hb5))
      all_goals
       go_wp2_with fail
       go_meet
       exact ⟨rfl, by first | exact HB5.out | exact (Below.refl _ _).drew.trans HB5.out⟩
     case rest =>
      obtain ⟨rfl, hbx⟩ := hcut
      have HBX := Lib.hid hbx
      clear hbx k1 hlK
      cases q
      ·go_wp2_with fail
       go_roundg gk
       case measure => omega
       case rel =>
        refine ⟨(o : Int) + 1, rfl, by omega, by omega, by omega, ?_, HBW.out.trans (HBX.out.mono HBW.out.size)⟩
        have h := HN.out.2
        rw [if_neg (fun h => by cases h.2)] at h
        rw [HM.out]
        exact h
      ·go_wp2_with fail
       go_ret
       refine ⟨ret_int ?_, HAL.out.trans ((HBW.out.trans (HBX.out.mono HBW.out.size)).mono HAL.out.size)⟩
       have h := HN.out.2
       rw [if_pos ⟨HN.out.1, by simp⟩] at h
       rw [HX.out, HANS.out, h]
    ·have hlb : (eLine (o : Int) == n) = false := beq_eq_false_iff_ne.2 hl
     rw [if_neg (fun h => hl h.1)] at hans
     have HN := Lib.hid hans
     have HM := Lib.hid hm'
     obtain ⟨L, hL⟩ : ∃ L, eLine (o : Int) = L := ⟨_, rfl⟩
     have HL : Hid (∀ W, Calls Tryz.prog 143 #[.int .i64 o] W fun e w' => e = .returned (.int .i64 L) ∧ w' = W) := Lib.hid (fun W => by have := xline_any o W; rwa [hL] at this)
     rw [hL] at hlb
     clear hl hans hm hm' hL
     go_wp2_with fail
     go_quiet ((go_at_call 143; exact Calls.quiet_of_same (HL.out _)))
     go_wp2_with fail
     go_roundg gk
     case measure => omega
     case rel =>
      refine ⟨(o : Int) + 1, rfl, by omega, by omega, by omega, ?_, below_drewN HBW.out _⟩
      rw [HM.out]
      exact HN.out
   ·obtain rfl : op = 17 := by omega
    have HN := Lib.hid hans
    clear hans h4 h17 hle
    go_wp2_with fail
    go_ret
    refine ⟨ret_int ?_, HAL.out.trans (HBW.out.mono HAL.out.size)⟩
    rw [HX.out, HANS.out]
    exact HN.out
 ·have hkb : (tk == 4) = false := by rw [beq_eq_false_iff_ne]; exact hk
  have HX : Hid (twoX n ⟨tk, tx, tn, tp⟩ = -1) := Lib.hid (if_neg hk)
  clear hk
  go_enter Tryz.func133, Tryz.ntmps133
  go_wp2_with fail
  go_ret
  exact ⟨ret_int HX.out.symm, by first | exact HAL.out | exact HW0.out ▸ HAL.out | exact (Below.refl _ _).alloc (Nat.le_refl _) _⟩
end Go.Proofs.YtgcfjkfipkfijaaGreatDoor
