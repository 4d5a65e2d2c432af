/- Part 26 of the proof of rtexts_card; no conditions. -/
import Derived.Test.YtgcfjkfipkfijaaGreatDoorTx21
import Derived.Test.YtgcfjkfipkfijaaGreatDoorTx22
import Derived.Test.YtgcfjkfipkfijaaGreatDoorTx25
import Derived.Test.YtgcfjkfipkfijaaGreatDoorTx19
import Derived.Test.YtgcfjkfipkfijaaGreatDoorTx16
import Derived.Test.YtgcfjkfipkfijaaGreatDoorTx14
import Derived.Test.YtgcfjkfipkfijaaGreatDoorTx17
import Derived.Test.YtgcfjkfipkfijaaGreatDoorTx18
import Derived.Test.YtgcfjkfipkfijaaGreatDoorTx01
import Derived.Test.YtgcfjkfipkfijaaGreatDoorTx11
import Derived.Test.YtgcfjkfipkfijaaGreatDoorTx12
import Derived.Test.YtgcfjkfipkfijaaGreatDoorTx10
import Derived.Test.YtgcfjkfipkfijaaGreatDoorRows
import Derived.Test.YtgcfjkfipkfijaaGreatDoorCards
import Derived.Test.YtgcfjkfipkfijaaGreatDoorTie
import Derived.ProofKit
import Derived.Deep.DeepHandedRow
import Derived.Deep.DeepWitnessRowRef
import Derived.Lib.LaidU8
import Derived.LaidMore
import Derived.JoinedOf
import Derived.JoinedCond
import Derived.SevenTiedAt
import Derived.Deep.Slices
import Derived.Deep.Fields
import Derived.ChangeSame
import Derived.Lib.SmallJoins
import Derived.Carry
import Derived.OpenShut
import Derived.Laws.MakeOwn
namespace Go.Proofs.YtgcfjkfipkfijaaGreatDoor
open Go Go.RowKit Go.Lib
set_option maxHeartbeats 8000000 in
set_option maxRecDepth 100000 in
theorem yparse_cut (s : ByteArray) (w : World) (hs : s.size ≤ 9223372036854775806) (h0 : (cutB s).2.1 ≠ 0) : Calls Tryz.prog 10 #[.string s] w (RecPost (zRec, (cutB s).2.1, (cutB s).2.2) w) := by
 obtain ⟨w1, hw1⟩ : ∃ w1, w.alloc (.cells #[.string ⟨#[]⟩, .slice none 0 0, .slice none 0 0] 26 (0, 0)) = w1 := ⟨_, rfl⟩
 have hb1 : Below w.heap.size w w1 := hw1 ▸ (Below.refl _ _).alloc (Nat.le_refl _) _
 have hz1 : w1.heap[w.heap.size]? = some (.cells #[.string ⟨#[]⟩, .slice none 0 0, .slice none 0 0] 26 (0, 0)) := hw1 ▸ heap_alloc_new _ _
 have HCUT := Lib.hid (xcut_any s w1 hs)
 obtain ⟨K, hK⟩ : ∃ g, w.heap.size = g := ⟨_, rfl⟩
 obtain ⟨⟨tk, ce, ca⟩, hc⟩ : ∃ c, cutB s = c := ⟨_, rfl⟩
 rw [hc] at h0 ⊢
 have HC := Lib.hid hc
 have HK := Lib.hid hK
 rw [hK] at hz1
 have H1 := Lib.hid (⟨hb1, hz1⟩ : _ ∧ _)
 have HW1 := Lib.hid hw1
 have hk1 : K < w1.heap.size := blk_lt hz1
 have h0b : (ce != 0) = true := bne_iff_ne.2 h0
 clear hb1 hz1 hw1 hK hc h0
 go_enter Tryz.func10, Tryz.ntmps10
 go_wp2_with (rw [HW1.out, HK.out]; refine HCUT.out.mono ?_; unfold CutPost; rw [HC.out]; rintro r w2 ⟨A, c, rfl, hlc, hrow, hb2⟩; obtain ⟨⟨z0, z1, z2⟩, f0, f1, f2⟩ := blk3' ((hb2.block _ hk1).trans H1.out.2); have H2 := Lib.hid hb2; clear hlc hrow hb2)
 refine bodyPost_ret (v := .tuple #[.agg #[.string ⟨#[]⟩, .slice none 0 0, .slice none 0 0], .int .i64 ce, .int .i64 ca]) (by simp [results, Tryz.results10, go_sem, *]) rfl ?_
 exact rec_bad HK.out (H1.out.1.trans (H2.out.mono H1.out.1.size)) _ _ _ rfl rfl rfl rfl
theorem rec_drew {w W : World} {K : Nat} {e a : Int} (hK : w.heap.size = K) (hb : Below w.heap.size w W) (x y z : Value) :
  RecPost (zRec, e, a) w (.returned (.tuple #[.agg #[.string ⟨#[]⟩, .slice none 0 0, .slice none 0 0], .int .i64 e, .int .i64 a])) (((W.setCell ⟨K, 0, none⟩ x).setCell ⟨K, 1, none⟩ y).setCell ⟨K, 2, none⟩ z).drew := by
 obtain ⟨_, _, _, _, _, _, _, h⟩ := rec_bad (e := e) (a := a) (pA := none) (nA := none) (pc := 0) (nc := 0) hK hb x y z rfl rfl rfl rfl
 exact ⟨none, 0, none, 0, rfl, RowF.nil _ _ _ _ _, RowF.nil _ _ _ _ _, h.drew⟩
section
variable {l : List Tok} {g c b0 b1 b K : Nat} {A B : Option Addr} {s : RS} {w w' : World} {nm nv pV : Value} {ps : List Prm}
theorem nodes_one {U : Nat} (h : w.heap[U]? = some (.cells #[.int .i64 0, .slice none 0 0, .slice none 0 0, .string ⟨#[]⟩, .slice none 0 0, .int .i64 0, .int .i64 0, .string ⟨#[]⟩, .slice none 0 0] 43 (0, 0))) (hU : b0 ≤ U) : NodesB b0 (fun k => k < b0) w (some ⟨U, 0, none⟩) 1 1 [q0R 0] :=
 ⟨rfl, ⟨rfl, .inr ⟨U, 1, #[.int .i64 0, .slice none 0 0, .slice none 0 0, .string ⟨#[]⟩, .slice none 0 0, .int .i64 0, .int .i64 0, .string ⟨#[]⟩, .slice none 0 0], rfl, hU, h, Nat.le_refl _, by unfold maxLen; decide, rfl, rfl⟩⟩, fun q hq => by
  simp only [List.mem_singleton] at hq
  subst hq
  exact World.ownsRow_nil _ _ _ _, by simp [blks, Value.ownBlock, q0R, NQ.kV], fun q hq => by
  simp only [List.mem_singleton] at hq
  subst hq
  exact q0R_rest _ _ _⟩
theorem YSt.root (h : XP l g A c b0 w s nm nv B b ps) (hb1 : w.heap.size = b1) (hn : s.bad = 0 → s.nodes = 1) (hw : (w.setCell ⟨g, 5, none⟩ (.slice (some ⟨b1, 0, none⟩) 1 1)).alloc (.cells #[.int .i64 0, .slice none 0 0, .slice none 0 0, .string ⟨#[]⟩, .slice none 0 0, .int .i64 0, .int .i64 0, .string ⟨#[]⟩, .slice none 0 0] 43 (0, 0)) = w') :
  YSt l g A c b1 0 nm (.slice B ps.length b) w' s (some ⟨b1, 0, none⟩) 1 1 [q0R 0] ∧ Same [g] w w' := by
 obtain ⟨w2, hw2⟩ : ∃ w2, w.setCell ⟨g, 5, none⟩ (.slice (some ⟨b1, 0, none⟩) 1 1) = w2 := ⟨_, rfl⟩
 have hz2 : w2.heap.size = b1 := by rw [← hw2, ← hb1]; simp
 have hs2 : Same [g] w w2 := hw2 ▸ (Same.refl [g] w).setCell (.inl (by simp)) _
 rw [hw2] at hw
 have hb3 : Below w2.heap.size w2 w' := hw ▸ (Below.refl _ _).alloc (Nat.le_refl _) _
 have hn3 : w'.heap[b1]? = some (.cells #[.int .i64 0, .slice none 0 0, .slice none 0 0, .string ⟨#[]⟩, .slice none 0 0, .int .i64 0, .int .i64 0, .string ⟨#[]⟩, .slice none 0 0] 43 (0, 0)) := by rw [← hz2, ← hw]; exact heap_alloc_new _ _
 have hg := h.gb
 have hl := h.lo
 have hgl := h.rdr.lt
 have hr2 : XdP w2 g A l.length c s (nm, .slice B ps.length b, .slice (some ⟨b1, 0, none⟩) 1 1) := hw2 ▸ blk_set h.rdr.rd 5 _
 have hX : Xdr l g A c w2 s (nm, .slice B ps.length b, .slice (some ⟨b1, 0, none⟩) 1 1) := ⟨hr2, h.rdr.row.keep hs2 (fun k hk => by simp at hk; omega), h.rdr.inr⟩
 refine ⟨⟨⟨hX.step hb3, nodes_one hn3 (Nat.le_refl _), by omega, Nat.le_of_lt (blk_lt hn3)⟩, by omega, fun q hq => ?_, fun hb => by rw [hn hb]; rfl⟩, ?_⟩
 ·simp only [List.mem_singleton] at hq
  subst hq
  exact Nat.zero_lt_one
 ·exact hs2.then_ (Same.of_below hb3)
end
set_option maxHeartbeats 8000000 in
set_option maxRecDepth 100000 in
theorem yparse_read (s : ByteArray) (w : World) (hs : s.size ≤ 9223372036854775806) (h0 : (cutB s).2.1 = 0) : Calls Tryz.prog 10 #[.string s] w (RecPost (recP s) w) := by
 obtain ⟨w1, hw1⟩ : ∃ w1, w.alloc (.cells #[.string ⟨#[]⟩, .slice none 0 0, .slice none 0 0] 26 (0, 0)) = w1 := ⟨_, rfl⟩
 have hb1 : Below w.heap.size w w1 := hw1 ▸ (Below.refl _ _).alloc (Nat.le_refl _) _
 have hz1 : w1.heap[w.heap.size]? = some (.cells #[.string ⟨#[]⟩, .slice none 0 0, .slice none 0 0] 26 (0, 0)) := hw1 ▸ heap_alloc_new _ _
 have HCUT := Lib.hid (xcut_any s w1 hs)
 have T0 := toks_of h0
 have S0 := sgns_of s
 have hl0 := cutB_len s
 obtain ⟨ANS, hANS⟩ : ∃ x, recP s = x := ⟨_, rfl⟩
 rw [hANS]
 unfold recP at hANS
 simp only at hANS
 obtain ⟨K, hK⟩ : ∃ g, w.heap.size = g := ⟨_, rfl⟩
 obtain ⟨⟨l, ce, ca⟩, hc⟩ : ∃ c, cutB s = c := ⟨_, rfl⟩
 rw [hc] at h0 T0 S0 hl0 hANS
 simp only at h0 T0 S0 hl0 hANS
 subst h0
 rw [if_neg (by decide)] at hANS
 have T : Toks l := T0
 have S : SgnL l := S0
 have hl : l.length ≤ 2001 := hl0
 clear T0 S0 hl0
 obtain ⟨s4, h4⟩ : ∃ x, rMust l wRecipe ⟨0, 0, 1⟩ = x := ⟨_, rfl⟩
 have hin0 : InR l ⟨0, 0, 1⟩ := ⟨by show (0 : Int) ≤ 0; omega, by show (0 : Int) < _; have := T.fin.1; omega, by show (0 : Int) ≤ 1; omega, by show (1 : Int) ≤ 27; omega, fun _ => by show (1 : Int) ≤ 24; omega⟩
 have hon4 := rMust_on T.fin wRecipe (by decide) hin0
 have hct4 := mustC (l := l) (s := ⟨0, 0, 1⟩) wRecipe
 rw [h4] at hon4 hct4
 obtain ⟨⟨nm, s5⟩, h5⟩ : ∃ x, rName l [] s4 = x := ⟨_, rfl⟩
 have hon5 := hon4.trans (rName_on T.fin [] hon4.1)
 have hct5 := hct4.trans (name_cnt (l := l) [])
 rw [h5] at hon5 hct5
 simp only at hon5 hct5
 obtain ⟨⟨PP, s7⟩, h7⟩ : ∃ x, prmF l 6 [] s5 = x := ⟨_, rfl⟩
 have hon7 := hon5.trans (prmF_on T.fin 6 [] s5 hon5.1)
 simp only [h7] at hon7
 obtain ⟨⟨ks, s8⟩, h8⟩ : ∃ x, blockP l (nodeF l 30) s7 = x := ⟨_, rfl⟩
 have hm7 : (25 : Int) - (30 : Nat) ≤ s7.nodes := by have := hon7.2; simp only at this; omega
 have hno := nodeF_on T.fin T.take 30
 have hon8 := blockP_on T.fin hno hon7.1 hm7
 rw [h8] at hon8
 simp only at hon8
 obtain ⟨s9, h9⟩ : ∃ x, (if s8.bad = 0 ∧ (tokAt l s8.at_).kind ≠ 0 then rFail 11 s8 else s8) = x := ⟨_, rfl⟩
 have hrd : readP l = (nm, PP, ks, s9) := by
  unfold readP
  simp only [h4, h5, h7, h8, h9]
 rw [hrd] at hANS
 simp only at hANS
 have HS := Lib.hid (⟨h4, h5, h7, h8, hin0, hon4.1, hon5.1, hct5, hm7, h9⟩ : _ ∧ _ ∧ _ ∧ _ ∧ _ ∧ _ ∧ _ ∧ _ ∧ _ ∧ _)
 have HNO := Lib.hid hno
 have HANS := Lib.hid hANS
 have HC := Lib.hid hc
 have HK := Lib.hid hK
 rw [hK] at hz1
 have H1 := Lib.hid (⟨hb1, hz1⟩ : _ ∧ _)
 have HW1 := Lib.hid hw1
 have hk1 : K < w1.heap.size := blk_lt hz1
 clear hb1 hz1 hw1 hK hc hANS h4 h5 h7 h8 h9 hin0 hon4 hon5 hon7 hon8 hct4 hct5 hno hm7 hrd
 go_enter Tryz.func10, Tryz.ntmps10
 go_wp2_with fail
 rw [HW1.out, HK.out]
 refine HCUT.out.mono ?_
 unfold CutPost
 rw [HC.out]
 rintro r w2 ⟨A, c, rfl, hlc, hrow, hb2⟩
 simp only at hlc hrow
 go_upto_region 5 with fail
 obtain ⟨g, hg⟩ : ∃ g, w2.heap.size = g := ⟨_, rfl⟩
 obtain ⟨w3, hw3⟩ : ∃ w', w2.alloc (.cells #[.slice A l.length c, .int .i64 0, .int .i64 0, .string ⟨#[]⟩, .slice none 0 0, .slice none 0 0] 67 (0, 0)) = w' := ⟨_, rfl⟩
 have hb3 : Below w2.heap.size w2 w3 := hw3 ▸ (Below.refl _ _).alloc (Nat.le_refl _) _
 have hk3 : XdP w3 g A l.length c ⟨0, 0, 1⟩ (.string ⟨#[]⟩, .slice none 0 0, .slice none 0 0) := by unfold XdP; rw [← hg, ← hw3]; exact heap_alloc_new _ _
 rw [hw3, hg]
 have hR2 : RowF tokK (fun k => k < w1.heap.size) w2 A c l := ⟨hlc, hrow⟩
 have hX3 : Xdr l g A c w3 ⟨0, 0, 1⟩ (.string ⟨#[]⟩, .slice none 0 0, .slice none 0 0) := ⟨hk3, (hR2.more (fun k hk => .inr (by omega))).below hb3, HS.out.2.2.2.2.1⟩
 have HX3 := Lib.hid hX3
 have hKg : K < g := by have := hb2.size; omega
 have hz3 := (hb3.block K (by have := hb2.size; omega)).trans ((hb2.block K hk1).trans H1.out.2)
 have HW3 := Lib.hid (⟨H1.out.1.trans ((hb2.trans (hb3.mono hb2.size)).mono H1.out.1.size), hz3⟩ : Below w.heap.size w w3 ∧ _)
 clear hb3 hk3 hw3 hg hR2 hX3 hz3 hlc hrow hb2
 go_wp2_with fail
 refine (ymust_any T HX3.out wRecipe (by decide)).mono ?_
 rw [HS.out.1]
 rintro e w4 ⟨rfl, hr4, hs4⟩
 have HX4 := Lib.hid (⟨HX3.out.next hr4 hs4 (fun k hk => by simp at hk; omega) HS.out.2.2.2.2.2.1, hs4⟩ : _ ∧ _)
 clear hr4 hs4
 have hnm := yname_any T HX4.out.1 (a := none) (cc := 0) (had := []) (StrR.nil _ _) 1 (by decide)
 rw [show rMost l (([] : List ByteArray).length : Nat) 1 s4 = s4 from if_neg (fun hc => absurd hc.1 (by decide)), HS.out.2.1] at hnm
 have HNM := Lib.hid hnm
 clear hnm
 go_wp2_with fail
 refine HNM.out.mono ?_
 rintro e w5 ⟨rfl, hr5, hs5⟩
 have hX5 := HX4.out.1.next hr5 hs5 (fun k hk => by simp at hk; omega) HS.out.2.2.2.2.2.2.1
 have HX5 := Lib.hid (⟨hX5, HX4.out.2.then_ hs5⟩ : _ ∧ _)
 obtain ⟨⟨q0, q1, q2, q3, q4, q5⟩, _⟩ := blk6 hX5.rd
 have hgl := hX5.lt
 have fz3 := Lib.frozen_of_heap hX5.rd 3
 clear hr5 hs5 hX5
 go_wp2_with fail
 obtain ⟨w6, hw6⟩ : ∃ w6, w5.setCell ⟨g, 3, none⟩ (.string nm) = w6 := ⟨_, rfl⟩
 have hs6 : Same [g] w5 w6 := hw6 ▸ (Same.refl [g] w5).setCell (.inl (by simp)) _
 have hX6 : Xdr l g A c w6 s5 (.string nm, .slice none 0 0, .slice none 0 0) := ⟨hw6 ▸ blk_set HX5.out.1.rd 3 _, HX5.out.1.row.keep hs6 (fun k hk => by simp at hk; omega), HX5.out.1.inr⟩
 obtain ⟨b0, hb0⟩ : ∃ b0, w6.heap.size = b0 := ⟨_, rfl⟩
 have hP6 : XP l g A c b0 w6 s5 (.string nm) (.slice none 0 0) none 0 [] := ⟨hX6, GrowB.nil _ _ _ _ _, hb0 ▸ hX6.lt, by omega⟩
 have HP6 := Lib.hid (⟨hP6, HX5.out.2.then_ hs6⟩ : _ ∧ _)
 have HB0 := Lib.hid hb0
 rw [hw6]
 clear hs6 hX6 hP6 hw6 hb0 q0 q1 q2 q3 q4 q5 fz3 hgl
 go_loopg [] 8 (fun k wr => ∃ f ps s' B b, XP l g A c b0 wr s' (.string nm) (.slice none 0 0) B b ps ∧ f < k ∧ ps.length ≤ 4 ∧ (s'.bad = 0 → prmF l f ps s' = (PP, s7) ∧ f + ps.length = 6) ∧ (s'.bad ≠ 0 → s' = s7) ∧ NoCnt s5 s' ∧ Same [g] w6 wr)
 case atStart => exact ⟨6, [], s5, none, 0, HP6.out.1, by omega, by simp, fun _ => ⟨HS.out.2.2.1, rfl⟩, fun hc => by
  have h := HS.out.2.2.1
  rw [prmF_stop (key_bad hc)] at h
  exact (Prod.mk.inj h).2, .refl, Same.refl _ _⟩
 case round =>
  obtain ⟨f, ps, s', B, b, hX, hfk, hl4, hok, hbd, hct, hSm⟩ := hrel
  obtain ⟨gk, rfl⟩ : ∃ k, gk = k + 1 := ⟨gk - 1, by omega⟩
  have HX := Lib.hid (⟨hX, hct, hSm⟩ : _ ∧ _ ∧ _)
  have HI := Lib.hid (yis_any T hX.rdr wParam (by decide))
  rw [takes_param S] at HI
  obtain ⟨q, hq⟩ : ∃ q, rIsKey l wParam s' = q := ⟨_, rfl⟩
  rw [hq] at HI
  cases q with
  | true =>
   obtain ⟨hb, hmp⟩ := must_param hq
   obtain ⟨hans, hf6⟩ := hok hb
   obtain ⟨j, rfl⟩ : ∃ j, f = j + 1 := ⟨f - 1, by omega⟩
   obtain ⟨x, hx⟩ : ∃ x, (if ps.length = 4 then ((⟨⟨#[]⟩, 0, false⟩ : Prm), rFail 2 s') else prmP l (ps.map (·.name)) (rMust l wParam s')) = x := ⟨_, rfl⟩
   have hstep : (x.2.bad = 0 → prmF l j (ps ++ [x.1]) x.2 = (PP, s7) ∧ ps.length < 4) ∧ (x.2.bad ≠ 0 → x.2 = s7) ∧ NoCnt s' x.2 := by
    rw [prmF, if_pos hq] at hans
    by_cases h4 : ps.length = 4
    ·rw [if_pos h4] at hans hx
     rw [← hx]
     exact ⟨fun hc => absurd hc (rFail_bad (by decide) _), fun _ => (Prod.mk.inj hans).2, fail_cnt (by decide)⟩
    ·rw [if_neg h4] at hans hx
     rw [hmp] at hx
     rw [hx] at hans
     refine ⟨fun _ => ⟨hans, by omega⟩, fun hc => ?_, ?_⟩
     ·rw [prmF_stop (key_bad hc)] at hans
      exact (Prod.mk.inj hans).2
     ·have h1 := prmP_cnt (l := l) (s := rPass s') (ps.map (·.name))
      rw [hx] at h1
      exact fun hc => ⟨hb, (h1 hc).2⟩
   have HPR := Lib.hid (fun W (h : XP l g A c b0 W s' (.string nm) (.slice none 0 0) B b ps) => yparam_any T h hl4)
   rw [hx] at HPR
   have HSTP := Lib.hid (⟨hstep, hf6⟩ : _ ∧ _)
   clear hX hct hSm hok hbd hans hx hstep hq hmp hb hf6
   go_wp2_with fail
   refine HI.out.mono ?_
   rintro e w7 ⟨rfl, hb7⟩
   have HX7 := Lib.hid (HX.out.1.step (Same.of_below hb7) (HX.out.1.rdr.step hb7).rd HX.out.1.rdr.inr)
   have HS7 := Lib.hid (HX.out.2.2.then_ (Same.of_below hb7))
   clear hb7
   go_wp2_with fail
   refine (HPR.out w7 HX7.out).mono ?_
   rintro e w8 ⟨rfl, B8, b8, ps8, hx8, hok8, hl8, hs8, _⟩
   have hs8' : Same [g] w6 w8 := HS7.out.trans hs8 (fun y hy => by
    rcases List.mem_cons.1 hy with rfl | hy
    ·exact .inl (by simp)
    ·exact .inr (by have := (HX7.out.rows.blk y (by simpa using hy)).1; have := HB0.out; omega))
   have H8 := Lib.hid (⟨hx8, hok8, hl8, hs8'⟩ : _ ∧ _ ∧ _ ∧ _)
   clear hx8 hok8 hl8 hs8 hs8'
   go_wp2_with fail
   go_roundg gk
   case measure => omega
   case rel =>
    obtain ⟨⟨g1, g2, g3⟩, g4⟩ := HSTP.out
    refine ⟨j, ps8, x.2, B8, b8, H8.out.1, by omega, H8.out.2.2.1, fun hc => ?_, g2, HX.out.2.1.trans g3, H8.out.2.2.2⟩
    have h1 := H8.out.2.1 hc
    rw [h1]
    exact ⟨(g1 hc).1, by simp; omega⟩
  | false =>
   have hfin : s' = s7 ∧ (s7.bad = 0 → ps = PP) := by
    by_cases hc : s'.bad = 0
    ·have h := (hok hc).1
     rw [prmF_stop hq] at h
     exact ⟨(Prod.mk.inj h).2, fun _ => (Prod.mk.inj h).1⟩
    ·have h := hbd hc
     exact ⟨h, fun h2 => absurd (h ▸ h2) hc⟩
   obtain ⟨rfl, hPP⟩ := hfin
   have HPP := Lib.hid hPP
   clear hX hct hSm hok hbd hq hPP
   go_wp2_with fail
   refine HI.out.mono ?_
   rintro e w7 ⟨rfl, hb7⟩
   have HX7 := Lib.hid (HX.out.1.step (Same.of_below hb7) (HX.out.1.rdr.step hb7).rd HX.out.1.rdr.inr)
   have HS7 := Lib.hid (HX.out.2.2.then_ (Same.of_below hb7))
   clear hb7
   obtain ⟨⟨q0, q1, q2, q3, q4, q5⟩, _, _, _, f5⟩ := blk6 HX7.out.rdr.rd
   have hgl := HX7.out.rdr.lt
   go_upto_region 11 with fail
   obtain ⟨b1, hb1⟩ : ∃ b1, w7.heap.size = b1 := ⟨_, rfl⟩
   rw [hb1]
   obtain ⟨w8, hw8⟩ : ∃ w8, (w7.setCell ⟨g, 5, none⟩ (.slice (some ⟨b1, 0, none⟩) 1 1)).alloc (.cells #[.int .i64 0, .slice none 0 0, .slice none 0 0, .string ⟨#[]⟩, .slice none 0 0, .int .i64 0, .int .i64 0, .string ⟨#[]⟩, .slice none 0 0] 43 (0, 0)) = w8 := ⟨_, rfl⟩
   have hY8 := YSt.root HX7.out hb1 (fun hb => by
    have h1 := HX.out.2.1 hb
    have h2 := HS.out.2.2.2.2.2.2.2.1 h1.1
    rw [h1.2, h2.2]) hw8
   rw [hw8]
   have HY8 := Lib.hid hY8
   have hrow8 : RowF prmK (fun k => k < b0 ∨ b1 ≤ k) w8 B b ps := (HX7.out.row.more (fun k hk => hk.imp id (fun h => by omega))).keep hY8.2 (fun k hk => by simp at hk; have := HX7.out.gb; exact .inl (by omega))
   have HRW8 := Lib.hid hrow8
   have hbd := ybody_any T (ynodes_any T hl 30) HNO.out HY8.out.1 HS.out.2.2.2.2.2.2.2.2.1 Nat.zero_lt_one
   rw [HS.out.2.2.2.1, show ((0 : Nat) : Int) = 0 from rfl] at hbd
   have HBD := Lib.hid hbd
   have HBW := Lib.hid (fun hb => (block_bad (l := l) (nd := nodeF l 30) (s := s') hb))
   rw [HS.out.2.2.2.1] at HBW
   clear q0 q1 q2 q3 q4 q5 f5 hgl hw8 hY8 hrow8 hbd
   go_wp2_with fail
   refine HBD.out.mono ?_
   rintro e w9 ⟨rfl, B9, n9, b9, qs9, hW⟩
   have hgb := HX7.out.gb
   have hlo := HX7.out.lo
   have hbl : ∀ y, y ∈ g :: blks (.slice (some ⟨b1, 0, none⟩) 1 1) [q0R 0] → y = g ∨ y = b1 := fun y hy => by
    simp [blks, Value.ownBlock, q0R, NQ.kV] at hy
    exact hy
   have hrow9 := HRW8.out.keep hW.same (fun y hy => (hbl y hy).elim (fun h => .inl (by omega)) (fun h => .inr (by omega)))
   have hs3 : Same [g] w3 w9 := (((HP6.out.2.trans HS7.out (fun y hy => .inl hy)).trans HY8.out.2 (fun y hy => .inl hy))).trans hW.same (fun y hy => (hbl y hy).elim (fun h => .inl (by simp [h])) (fun h => .inr (by
    have h1 := HP6.out.2.size
    have h2 := HB0.out
    omega)))
   have hz9 := hs3.heap (k := K) (by simp; omega) HW3.out.2
   have hbel : Below w.heap.size w w9 := ((Same.of_below (M := [g]) HW3.out.1).trans hs3 (fun y hy => .inl hy)).below_of (fun y hy => by
    have h1 := HK.out
    simp at hy
    omega)
   have HW9 := Lib.hid (⟨hW.st, hW.nds, hrow9, hbel, hz9⟩ : _ ∧ _ ∧ _ ∧ _ ∧ _)
   have hin := hW.st.xn.rdr.inr
   obtain ⟨⟨q0, q1, q2, q3, q4, q5⟩, _⟩ := blk6 hW.st.xn.rdr.rd
   have hgl := hW.st.xn.rdr.lt
   have hrow := hW.st.xn.rdr.row.2 [] (by simp)
   have hcl := hW.st.xn.rdr.row.1
   obtain ⟨k, hk0⟩ := Int.eq_ofNat_of_zero_le hin.1
   have hk : k < l.length := by have := hin.2.1; omega
   obtain ⟨ad, rfl⟩ := row_some0 hrow (by omega)
   obtain ⟨x0, x1, x2, x3⟩ := tok_some hrow k hk
   have hlt := World.block_lt_of_cell? _ _ x0
   have htk := tokAt_get hk
   rw [← hk0] at htk
   have hkz : (k : Int) < l.length := by omega
   have hkn : (0 : Int) ≤ k := by omega
   have hlm := hrow.1
   obtain ⟨t, ht⟩ : ∃ t, l[k] = t := ⟨_, rfl⟩
   have HT := Lib.hid (htk.trans ht)
   have HL := Lib.hid (⟨hk0, ht⟩ : _ ∧ _)
   rw [ht] at x0 x3
   rw [hk0] at q1
   clear hW hrow9 hs3 hz9 hbel hin hrow htk ht x1 x2
   by_cases hb8 : s8.bad = 0
   ·by_cases hkd : t.kind = 0
    ·have hkb : (t.kind != 0) = false := by rw [hkd]; rfl
     have h9 : s8 = s9 := by rw [← HS.out.2.2.2.2.2.2.2.2.2, if_neg (fun hc => hc.2 (by rw [HT.out]; exact hkd))]
     have HQ := Lib.hid (⟨h9, hb8⟩ : _ ∧ _)
     have hPP := HPP.out (HBW.out hb8)
     subst hPP
     obtain ⟨⟨z0, z1, z2⟩, e0, e1, e2⟩ := blk3' HW9.out.2.2.2.2
     have hKl := blk_lt HW9.out.2.2.2.2
     rw [hb8] at q2
     clear h9 hb8 hkd
     go_wp2_with fail
     refine bodyPost_ret (v := .tuple #[.agg #[.string nm, .slice B ps.length b, .slice B9 n9 b9], .int .i64 0, .int .i64 0]) (by simp [results, Tryz.results10, go_sem, *]) rfl ?_
     have hb9 : s9.bad = 0 := by rw [← HQ.out.1]; exact HQ.out.2
     rw [← HANS.out, if_neg (by simpa using hb9)]
     have hnl := HW9.out.2.1 HQ.out.2
     rw [nodes_root] at hnl
     have hno2 := HW9.out.1.xn.nodes.out (fun k hk => hk)
     rw [hnl] at hno2
     have hql : n9 = (numP 0 (.row 0 [] ks)).length := by rw [← hnl, List.length_map]; exact HW9.out.1.xn.nodes.len.symm
     have hs3 := same_set3 w9 K (.string nm) (.slice B ps.length b) (.slice B9 n9 b9)
     have hKw := HK.out
     have hw3 := HX3.out.lt
     refine ⟨B, b, B9, b9, by rw [hql], (HW9.out.2.2.1.keep hs3 (fun k hk => by simp at hk; exact .inl (by omega))).more (fun k hk => .inl (.inl (by omega))), (hno2.keep hs3 (fun k hk => by simp at hk; omega)).more (fun k hk => .inl (by omega)), ?_⟩
     exact ((Same.of_below (M := [K]) HW9.out.2.2.2.1).trans hs3 (fun x hx => .inl hx)).below_of (fun k hk => by simp at hk; omega)
    ·have hkb : (t.kind != 0) = true := bnet hkd
     have h9 : rFail 11 s8 = s9 := by rw [← HS.out.2.2.2.2.2.2.2.2.2, if_pos ⟨hb8, by rw [HT.out]; exact hkd⟩]
     have HQ := Lib.hid h9
     rw [hb8] at q2
     have hat : s9.at_ = s8.at_ := by rw [← h9]; unfold rFail; split <;> rfl
     have HAT := Lib.hid hat
     clear h9 hb8 hkd hat
     go_wp2_with fail
     refine (yfail_any HW9.out.1.xn.rdr 11).mono ?_
     have hin10 := (rFail_on 11 (by decide) HW9.out.1.xn.rdr.inr).1
     rw [HQ.out] at hin10 ⊢
     rintro e w10 ⟨rfl, hr10, hs10⟩
     have hX10 := HW9.out.1.xn.rdr.next hr10 hs10 (fun k hk => by simp at hk; omega) hin10
     have hKg10 := hs10.heap (k := K) (by simp; omega) HW9.out.2.2.2.2
     have hbl10 : Below w.heap.size w w10 := ((Same.of_below (M := [g]) HW9.out.2.2.2.1).trans hs10 (fun x hx => .inl hx)).below_of (fun y hy => by
      have h1 := HK.out
      simp at hy
      omega)
     have HE := Lib.hid (⟨hX10, hKg10, hbl10, by rw [← HQ.out]; exact rFail_bad (by decide) _, HAT.out.trans HL.out.1⟩ : _ ∧ _ ∧ _ ∧ s9.bad ≠ 0 ∧ s9.at_ = (k : Int))
     clear hr10 hs10 hX10 hKg10 hbl10 hin10 q0 q1 q2 q3 q4 q5 hgl x0 x3 hlt hkb
     obtain ⟨⟨q0, q1, q2, q3, q4, q5⟩, _⟩ := blk6 HE.out.1.rd
     have hgl := HE.out.1.lt
     obtain ⟨⟨z0, z1, z2⟩, e0, e1, e2⟩ := blk3' HE.out.2.1
     have hKl := blk_lt HE.out.2.1
     have hrow := HE.out.1.row.2 [] (by simp)
     obtain ⟨x0, x1, x2, x3⟩ := tok_some hrow k hk
     have hlt := World.block_lt_of_cell? _ _ x0
     rw [HL.out.2] at x3
     rw [HE.out.2.2.2.2] at q1
     obtain ⟨bd, hbd⟩ : ∃ x, s9.bad = x := ⟨_, rfl⟩
     have hb9 := HE.out.2.2.2.1
     rw [hbd] at q2 hb9
     have HB9 := Lib.hid hbd
     have hbn : (bd != 0) = true := bnet hb9
     clear hrow x0 x1 x2 hbd hb9
     go_wp2_with fail
     go_region
     all_goals
      go_wp2
      refine bodyPost_ret (v := .tuple #[.agg #[.string ⟨#[]⟩, .slice none 0 0, .slice none 0 0], .int .i64 bd, .int .i64 t.at_]) (by simp [results, Tryz.results10, go_sem, *]) rfl ?_
      have h9b : s9.bad ≠ 0 := HE.out.2.2.2.1
      have h9t : tokAt l s9.at_ = t := by rw [HE.out.2.2.2.2, ← HL.out.1]; exact HT.out
      rw [← HANS.out, if_pos h9b, h9t, HB9.out]
      exact rec_drew HK.out HE.out.2.2.1 _ _ _
   ·have h9 : s8 = s9 := by rw [← HS.out.2.2.2.2.2.2.2.2.2, if_neg (fun hc => hb8 hc.1)]
    have hbb : (s8.bad == 0) = false := beqf hb8
    have HE := Lib.hid (⟨h9 ▸ HW9.out.1.xn.rdr, HW9.out.2.2.2.2, HW9.out.2.2.2.1, by rw [← h9]; exact hb8, by rw [← h9]; exact HL.out.1⟩ : _ ∧ _ ∧ _ ∧ s9.bad ≠ 0 ∧ s9.at_ = (k : Int))
    have hq2 : s8.bad = s9.bad := by rw [h9]
    rw [hq2] at hbb
    clear h9 hb8 hq2 q0 q1 q2 q3 q4 q5 hgl x0 x3 hlt
    obtain ⟨⟨q0, q1, q2, q3, q4, q5⟩, _⟩ := blk6 HE.out.1.rd
    have hgl := HE.out.1.lt
    obtain ⟨⟨z0, z1, z2⟩, e0, e1, e2⟩ := blk3' HE.out.2.1
    have hKl := blk_lt HE.out.2.1
    have hrow := HE.out.1.row.2 [] (by simp)
    obtain ⟨x0, x1, x2, x3⟩ := tok_some hrow k hk
    have hlt := World.block_lt_of_cell? _ _ x0
    rw [HL.out.2] at x3
    rw [HE.out.2.2.2.2] at q1
    obtain ⟨bd, hbd⟩ : ∃ x, s9.bad = x := ⟨_, rfl⟩
    have hb9 := HE.out.2.2.2.1
    rw [hbd] at q2 hb9 hbb
    have HB9 := Lib.hid hbd
    have hbn : (bd != 0) = true := bnet hb9
    clear hrow x0 x1 x2 hbd hb9
    go_wp2_with fail
    go_region
    all_goals
     go_wp2
     refine bodyPost_ret (v := .tuple #[.agg #[.string ⟨#[]⟩, .slice none 0 0, .slice none 0 0], .int .i64 bd, .int .i64 t.at_]) (by simp [results, Tryz.results10, go_sem, *]) rfl ?_
     have h9b : s9.bad ≠ 0 := HE.out.2.2.2.1
     have h9t : tokAt l s9.at_ = t := by rw [HE.out.2.2.2.2, ← HL.out.1]; exact HT.out
     rw [← HANS.out, if_pos h9b, h9t, HB9.out]
     exact rec_drew HK.out HE.out.2.2.1 _ _ _
theorem yparse_any (s : ByteArray) (w : World) (hs : s.size ≤ 9223372036854775806) : Calls Tryz.prog 10 #[.string s] w (RecPost (recP s) w) := by
 by_cases h0 : (cutB s).2.1 = 0
 ·exact yparse_read s w hs h0
 ·have h := yparse_cut s w hs h0
  have e : recP s = (zRec, (cutB s).2.1, (cutB s).2.2) := by unfold recP; simp only; rw [if_pos h0]
  rw [e]
  exact h
end Go.Proofs.YtgcfjkfipkfijaaGreatDoor
namespace Go.Proofs.YtgcfjkfipkfijaaGreatDoor
open Go Go.RowKit Go.Lib
set_option maxHeartbeats 8000000 in
set_option maxRecDepth 100000 in
open Classical in
theorem xeq_step {P Q : Nat → Prop} (o n : Int) (nm : ByteArray) (ks : List Ex) (o' n' : Int) (nm' : ByteArray) (ks' : List Ex) (A : Option Addr) (c : Nat) (B : Option Addr) (d : Nat) (w : World) (ha : ExF P w (.mk o n nm ks) A c) (hb : ExF Q w (.mk o' n' nm' ks') B d)
  (ih : ∀ i (hi : i < ks.length) (hj : i < ks'.length) A' c' B' d' W, ExF P W ks[i] A' c' → ExF Q W ks'[i] B' d' → Calls Tryz.prog 64 #[exV ks[i] A' c', exV ks'[i] B' d'] W fun r w' => r = .returned (.bool (decide (ks[i] = ks'[i]))) ∧ Below W.heap.size W w') :
  Calls Tryz.prog 64 #[.agg #[.int .i64 o, .int .i64 n, .string nm, .slice A ks.length c], .agg #[.int .i64 o', .int .i64 n', .string nm', .slice B ks'.length d]] w fun r w' => r = .returned (.bool (decide (Ex.mk o n nm ks = .mk o' n' nm' ks'))) ∧ Below w.heap.size w w' := by
 have hra : RowF exK P w A c ks := ⟨ha.1, ha.2⟩
 have hrb : RowF exK Q w B d ks' := ⟨hb.1, hb.2⟩
 have hxm := (hra.2 [] (by simp)).1
 have hym := (hrb.2 [] (by simp)).1
 have hxc := hra.1
 have hyc := hrb.1
 obtain ⟨R, hR⟩ : ∃ q, decide (Ex.mk o n nm ks = .mk o' n' nm' ks') = q := ⟨_, rfl⟩
 rw [hR]
 obtain ⟨m, hm⟩ : ∃ n, ks.length = n := ⟨_, rfl⟩
 obtain ⟨m', hm'⟩ : ∃ n, ks'.length = n := ⟨_, rfl⟩
 have H := Lib.hid (⟨hra, hrb, ih, hm, hm', hR⟩ : _ ∧ _ ∧ _ ∧ _ ∧ _ ∧ _)
 rw [hm] at hxm hxc ⊢
 rw [hm'] at hym hyc ⊢
 clear hra hrb ha hb ih hm hm' hR
 obtain ⟨w0, hw0⟩ : ∃ w0, (w.alloc (.cells #[.int .i64 o, .int .i64 n, .string nm, .slice A m c] 41)).alloc (.cells #[.int .i64 o', .int .i64 n', .string nm', .slice B m' d] 41) = w0 := ⟨_, rfl⟩
 have hal : Below w.heap.size w w0 := hw0 ▸ ((Below.refl _ _).alloc (Nat.le_refl _) _).alloc (by simp) _
 have hx : w0.heap[w.heap.size]? = some (.cells #[.int .i64 o, .int .i64 n, .string nm, .slice A m c] 41 (0, 0)) := hw0 ▸ (Below.heap_alloc _ _ _ (by simp)).trans (heap_alloc_new _ _)
 have hy : w0.heap[w.heap.size + 1]? = some (.cells #[.int .i64 o', .int .i64 n', .string nm', .slice B m' d] 41 (0, 0)) := by
  have h := heap_alloc_new (w.alloc (.cells #[.int .i64 o, .int .i64 n, .string nm, .slice A m c] 41)) (.cells #[.int .i64 o', .int .i64 n', .string nm', .slice B m' d] 41)
  rw [hw0] at h
  simpa using h
 have HW0 := Lib.hid hw0
 have HX := Lib.hid hx
 have HY := Lib.hid hy
 have HAL := Lib.hid hal
 obtain ⟨x0, x1, x2, x3⟩ := blk4a hx
 obtain ⟨y0, y1, y2, y3⟩ := blk4a hy
 have hlx := blk_lt hx
 have hly := blk_lt hy
 clear hx hy hw0 hal
 by_cases he : o = o' ∧ n = n' ∧ nm = nm' ∧ m = m'
 ·obtain ⟨rfl, rfl, rfl, rfl⟩ := he
  go_enter Tryz.func64, Tryz.ntmps64
  go_wp2_with fail
  rw [HW0.out]
  go_loopg [5] (m + 1) (fun k s5 w' => ∃ j : Nat, s5 = .int .i64 j ∧ j ≤ m ∧ m - j < k ∧ ks.take j = ks'.take j ∧ Below w0.heap.size w0 w')
  case atStart => exact ⟨0, rfl, by omega, by omega, by simp, Below.refl _ _⟩
  case round =>
   obtain ⟨j, rfl, hj, hjk, htk, hbw⟩ := hrel
   obtain ⟨gk, rfl⟩ : ∃ k, gk = k + 1 := ⟨gk - 1, by omega⟩
   have HBW := Lib.hid hbw
   have HXr := Lib.hid ((hbw.block _ (blk_lt HX.out)).trans HX.out)
   have HYr := Lib.hid ((hbw.block _ (blk_lt HY.out)).trans HY.out)
   clear x0 x1 x2 x3 y0 y1 y2 y3 hlx hly hbw
   obtain ⟨x0, x1, x2, x3⟩ := blk4a HXr.out
   obtain ⟨y0, y1, y2, y3⟩ := blk4a HYr.out
   have hlx := blk_lt HXr.out
   have hly := blk_lt HYr.out
   by_cases hlt : j < m
   ·have hix : j < ks.length := by rw [H.out.2.2.2.1]; exact hlt
    have hiy : j < ks'.length := by rw [H.out.2.2.2.2.1]; exact hlt
    have hS : Below w.heap.size w wr := HAL.out.trans (HBW.out.mono HAL.out.size)
    obtain ⟨ad, rfl⟩ := row_ad H.out.1 j hix
    obtain ⟨bd, rfl⟩ := row_ad H.out.2.1 j hiy
    obtain ⟨A', c', ⟨p0, p1, p2, p3⟩, hux, hul⟩ := exf_some (H.out.1.below hS) j hix
    obtain ⟨B', d', ⟨q0, q1, q2, q3⟩, hvx, hvl⟩ := exf_some (H.out.2.1.below hS) j hiy
    have HCALL : Hid (∀ W, Below wr.heap.size wr W → _) := Lib.hid (fun W hW => H.out.2.2.1 j hix hiy A' c' B' d' W (hux.below hW) (hvx.below hW))
    obtain ⟨t, ht⟩ : ∃ q, decide (ks[j] = ks'[j]) = q := ⟨_, rfl⟩
    simp only [ht] at HCALL
    have HT := Lib.hid (⟨hix, hiy, ht, htk⟩ : ∃ (h1 : j < ks.length) (h2 : j < ks'.length), decide (ks[j] = ks'[j]) = t ∧ ks.take j = ks'.take j)
    obtain ⟨x, hxx⟩ : ∃ e, ks[j] = e := ⟨_, rfl⟩
    obtain ⟨y, hyy⟩ : ∃ e, ks'[j] = e := ⟨_, rfl⟩
    rw [hxx] at p0 p1 p2 p3
    rw [hyy] at q0 q1 q2 q3
    simp only [hxx, hyy] at HCALL
    have hz : (j : Int) < m := by omega
    have hz0 : (0 : Int) ≤ j := by omega
    have hzc : (j : Int) < c := by omega
    have hzd : (j : Int) < d := by omega
    clear hux hvx hxx hyy ht htk hS hix hiy
    go_wp2_with fail
    go_cut [6] (fun s6 wx => s6 = .bool t ∧ Below wr.heap.size wr wx)
    case first =>
     go_region_with ((go_at_call 64; refine (HCALL.out _ ?_).mono ?_; (first | exact Below.refl _ _ | exact (Below.refl _ _).drew); rintro r w5 ⟨rfl, hb5⟩; have HB5 := Lib.hid hb5; clear hb5))
     all_goals
      go_wp2_with fail
      go_meet
      exact ⟨rfl, by first | exact HB5.out | exact (Below.refl _ _).drew.trans HB5.out⟩
    case rest =>
     obtain ⟨rfl, hbx⟩ := hcut
     have HBX := Lib.hid (HBW.out.trans (hbx.mono HBW.out.size))
     clear hbx
     cases t
     ·have HF : Hid (R = false) := Lib.hid (by
       obtain ⟨h1, h2, h3, _⟩ := HT.out
       rw [← H.out.2.2.2.2.2]
       exact decide_eq_false (fun e => ne_at h1 h2 (of_decide_eq_false h3) (by injection e)))
      go_wp2_with fail
      go_ret
      exact ⟨by rw [HF.out]; rfl, HAL.out.trans (HBX.out.mono HAL.out.size)⟩
     ·go_wp2_with fail
      go_roundg gk
      case measure => omega
      case rel => exact ⟨j + 1, by go_num, by omega, by omega, by obtain ⟨h1, h2, h3, h4⟩ := HT.out; exact take_next h1 h2 h4 (of_decide_eq_true h3), HBX.out⟩
   ·obtain rfl : j = m := by omega
    have HF : Hid (R = true) := Lib.hid (by
     rw [← H.out.2.2.2.2.2, take_eq H.out.2.2.2.1 H.out.2.2.2.2.1 htk rfl]
     exact decide_eq_true rfl)
    go_wp2_with fail
    go_ret
    exact ⟨by rw [HF.out]; rfl, HAL.out.trans (HBW.out.mono HAL.out.size)⟩
 ·have HQ : Hid (R = false) := Lib.hid (by
   rw [← H.out.2.2.2.2.2]
   exact decide_eq_false (fun e => he (by injection e with e1 e2 e3 e4; exact ⟨e1, e2, e3, by rw [← H.out.2.2.2.1, ← H.out.2.2.2.2.1, e4]⟩)))
  have key : (o == o') = false ∨ o = o' ∧ ((n == n') = false ∨ n = n' ∧ ((nm.data.toList == nm'.data.toList) = false ∧ (nm.toList == nm'.toList) = false ∨ nm = nm' ∧ ((m : Int) == m') = false)) := by
   by_cases e1 : o = o'
   ·refine .inr ⟨e1, ?_⟩
    by_cases e2 : n = n'
    ·refine .inr ⟨e2, ?_⟩
     by_cases e3 : nm = nm'
     ·exact .inr ⟨e3, beqf (fun e4 => he ⟨e1, e2, e3, by omega⟩)⟩
     ·exact .inl (str_ne e3)
    ·exact .inl (beqf e2)
   ·exact .inl (beqf e1)
  rcases key with t1 | ⟨rfl, t1 | ⟨rfl, ⟨t1, t3⟩ | ⟨rfl, t1⟩⟩⟩
  all_goals
   have t2 := bne_of t1
   clear he
   go_enter Tryz.func64, Tryz.ntmps64
   go_wp2_with fail
   rw [HW0.out]
   go_ret
   exact ⟨by rw [HQ.out]; rfl, HAL.out⟩
open Classical in
theorem xeq_any' (N : Nat) : ∀ {P Q : Nat → Prop} (e f : Ex) (A : Option Addr) (c : Nat) (B : Option Addr) (d : Nat) (w : World), SizeOf.sizeOf e < N → ExF P w e A c → ExF Q w f B d →
  Calls Tryz.prog 64 #[exV e A c, exV f B d] w fun r w' => r = .returned (.bool (decide (e = f))) ∧ Below w.heap.size w w' := by
 induction N with
 | zero => intro P Q e f A c B d w h; omega
 | succ N ih =>
  intro P Q e f A c B d w hN ha hb
  obtain ⟨o, n, nm, ks⟩ := e
  obtain ⟨o', n', nm', ks'⟩ := f
  refine xeq_step o n nm ks o' n' nm' ks' A c B d w ha hb (fun i hi hj A' c' B' d' W h1 h2 => ih _ _ A' c' B' d' W ?_ h1 h2)
  have h1 : SizeOf.sizeOf ks[i] < SizeOf.sizeOf ks := List.sizeOf_lt_of_mem (List.getElem_mem hi)
  simp at hN
  omega
open Classical in
theorem xeq_any {P Q : Nat → Prop} (e f : Ex) (A : Option Addr) (c : Nat) (B : Option Addr) (d : Nat) (w : World) (ha : ExF P w e A c) (hb : ExF Q w f B d) :
  Calls Tryz.prog 64 #[exV e A c, exV f B d] w fun r w' => r = .returned (.bool (decide (e = f))) ∧ Below w.heap.size w w' := xeq_any' _ e f A c B d w (Nat.lt_succ_self _) ha hb
end Go.Proofs.YtgcfjkfipkfijaaGreatDoor
namespace Go.Proofs.YtgcfjkfipkfijaaGreatDoor
open Go Go.RowKit Go.Lib
set_option maxHeartbeats 8000000 in
set_option maxRecDepth 100000 in
open Classical in
theorem xtexts_any {P Q : Nat → Prop} {w : World} {A B : Option Addr} {a b : Nat} {xs ys : List ByteArray} (hx : RowF Kind.str P w A a xs) (hy : RowF Kind.str Q w B b ys) :
  Calls Tryz.prog 16 #[.slice A xs.length a, .slice B ys.length b] w fun r w' => r = .returned (.bool (decide (xs = ys))) ∧ Below w.heap.size w w' := by
 obtain ⟨R, hR⟩ : ∃ F, decide (xs = ys) = F := ⟨_, rfl⟩
 rw [hR]
 have hxm := (hx.2 [] (by simp)).1
 have hym := (hy.2 [] (by simp)).1
 have hxc := hx.1
 have hyc := hy.1
 obtain ⟨n, hn⟩ : ∃ n, xs.length = n := ⟨_, rfl⟩
 obtain ⟨m, hm⟩ : ∃ n, ys.length = n := ⟨_, rfl⟩
 have H := Lib.hid (⟨hx, hy, hn, hm, hR⟩ : _ ∧ _ ∧ _ ∧ _ ∧ _)
 rw [hn] at hxm hxc ⊢
 rw [hm] at hym hyc ⊢
 clear hx hy hn hm hR
 by_cases hnm : n = m
 ·subst hnm
  go_enter Tryz.func16, Tryz.ntmps16
  go_wp2_with fail
  go_loopg [5] (n + 1) (fun q s5 wr => ∃ i : Nat, s5 = .int .i64 (i : Nat) ∧ i ≤ n ∧ n - i < q ∧ xs.take i = ys.take i ∧ Below w.heap.size w wr)
  case atStart => exact ⟨0, rfl, Nat.zero_le _, by omega, by simp, Below.refl _ _⟩
  case round =>
   obtain ⟨i, rfl, hin, hiq, htk, hb⟩ := hrel
   obtain ⟨gk, rfl⟩ : ∃ k, gk = k + 1 := ⟨gk - 1, by omega⟩
   by_cases hlt : i < n
   ·have hix : i < xs.length := by rw [H.out.2.2.1]; exact hlt
    have hiy : i < ys.length := by rw [H.out.2.2.2.1]; exact hlt
    obtain ⟨ad, rfl, c0, hl1⟩ := cell_some (H.out.1.below hb) i hix
    obtain ⟨bd, rfl, d0, hl2⟩ := cell_some (H.out.2.1.below hb) i hiy
    have HS := Lib.hid (⟨hix, hiy, htk, hb⟩ : ∃ (h1 : i < xs.length) (h2 : i < ys.length), xs.take i = ys.take i ∧ Below w.heap.size w wr)
    have HX := Lib.hid (fun (h1 : i < xs.length) (h2 : i < ys.length) (e : xs[i] = ys[i]) => e)
    have HN := Lib.hid (fun (e : xs[i] ≠ ys[i]) => ne_at hix hiy e)
    obtain ⟨x, hxx⟩ : ∃ x, xs[i] = x := ⟨_, rfl⟩
    obtain ⟨y, hyy⟩ : ∃ x, ys[i] = x := ⟨_, rfl⟩
    have HE := Lib.hid (⟨hix, hiy, hxx, hyy⟩ : ∃ (h1 : i < xs.length) (h2 : i < ys.length), xs[i] = x ∧ ys[i] = y)
    rw [hxx] at c0
    rw [hyy] at d0
    have hz : (i : Int) < n := by omega
    have hz0 : (0 : Int) ≤ i := by omega
    clear htk hb hxx hyy HX HN
    by_cases hxy : x = y
    ·subst hxy
     clear hix hiy
     go_wp2_with fail
     go_region
     all_goals
      go_wp2_with fail
      go_roundg gk
      case measure => omega
      case rel =>
       obtain ⟨h1, h2, h4, h5⟩ := HS.out
       obtain ⟨_, _, e1, e2⟩ := HE.out
       exact ⟨i + 1, by go_num, by omega, by omega, take_next h1 h2 h4 (e1.trans e2.symm), h5.drew⟩
    ·obtain ⟨t1, t3⟩ := str_ne hxy
     have t2 := bne_of t1
     have t4 := bne_of t3
     have HF : Hid (R = false) := Lib.hid (by
      obtain ⟨h1, h2, e1, e2⟩ := HE.out
      rw [← H.out.2.2.2.2]
      exact decide_eq_false (ne_at h1 h2 (fun e => hxy (by rw [← e1, ← e2, e]))))
     clear hix hiy hxy
     go_wp2_with fail
     go_region
     all_goals
      go_wp2_with fail
      refine bodyPost_ret (v := .bool false) (by simp [results, Tryz.results16, go_sem, *]) rfl ?_
      obtain ⟨h1, h2, h4, h5⟩ := HS.out
      exact ⟨by rw [HF.out], h5.drew⟩
   ·obtain rfl : i = n := by omega
    have HF : Hid (R = true) := Lib.hid (by
     rw [← H.out.2.2.2.2]
     exact decide_eq_true (take_eq H.out.2.2.1 H.out.2.2.2.1 htk rfl))
    have HB := Lib.hid hb
    clear hb htk
    go_wp2_with fail
    refine bodyPost_ret (v := .bool true) (by simp [results, Tryz.results16, go_sem, *]) rfl ?_
    exact ⟨by rw [HF.out], HB.out⟩
 ·have t1 : ((n : Int) == m) = false := beqf (by omega)
  have t2 := bne_of t1
  have HF : Hid (R = false) := Lib.hid (by
   rw [← H.out.2.2.2.2]
   refine decide_eq_false (fun e => hnm ?_)
   rw [← H.out.2.2.1, ← H.out.2.2.2.1, e])
  clear hnm
  go_enter Tryz.func16, Tryz.ntmps16
  go_wp2_with fail
  refine bodyPost_ret (v := .bool false) (by simp [results, Tryz.results16, go_sem, *]) rfl ?_
  exact ⟨by rw [HF.out], Below.refl _ _⟩
end Go.Proofs.YtgcfjkfipkfijaaGreatDoor
namespace Go.Proofs.YtgcfjkfipkfijaaGreatDoor
open Go Go.RowKit Go.Lib
set_option maxHeartbeats 16000000 in
set_option maxRecDepth 100000 in
open Classical in
theorem xnode_any {P Q : Nat → Prop} (x y : Nd) (kA : Option Addr) (kc : Nat) (uA : Option Addr) (uc : Nat) (gA : Option Addr) (gc : Nat) (eA : Option Addr) (ec : Nat) (kA' : Option Addr) (kc' : Nat) (uA' : Option Addr) (uc' : Nat) (gA' : Option Addr) (gc' : Nat) (eA' : Option Addr) (ec' : Nat) (w : World)
  (ha : NdF P w x kA kc uA uc gA gc eA ec) (hb : NdF Q w y kA' kc' uA' uc' gA' gc' eA' ec') :
  Calls Tryz.prog 39 #[ndV x kA kc uA uc gA gc eA ec, ndV y kA' kc' uA' uc' gA' gc' eA' ec'] w fun r w' => r = .returned (.bool (decide (x = y))) ∧ Below w.heap.size w w' := by
 obtain ⟨k, ki, us, nm, al, e⟩ := x
 obtain ⟨k', ki', us', nm', al', e'⟩ := y
 obtain ⟨R, hR⟩ : ∃ q, decide ((⟨k, ki, us, nm, al, e⟩ : Nd) = ⟨k', ki', us', nm', al', e'⟩) = q := ⟨_, rfl⟩
 rw [hR]
 have hR0 : R = true ↔ k = k' ∧ ki = ki' ∧ us = us' ∧ nm = nm' ∧ al = al' ∧ e = e' := by
  rw [← hR, decide_eq_true_iff]
  simp only [Nd.mk.injEq]
 have hkm := (ha.kids.2 [] (by simp)).1
 have hkm' := (hb.kids.2 [] (by simp)).1
 have hgm := (ha.args.2 [] (by simp)).1
 have hgm' := (hb.args.2 [] (by simp)).1
 have hkc := ha.kids.1
 have hkc' := hb.kids.1
 have hgc := ha.args.1
 have hgc' := hb.args.1
 simp only at hkm hkm' hgm hgm' hkc hkc' hgc hgc'
 obtain ⟨m, hm⟩ : ∃ n, ki.length = n := ⟨_, rfl⟩
 obtain ⟨m', hm'⟩ : ∃ n, ki'.length = n := ⟨_, rfl⟩
 obtain ⟨n, hn⟩ : ∃ n, al.length = n := ⟨_, rfl⟩
 obtain ⟨n', hn'⟩ : ∃ n, al'.length = n := ⟨_, rfl⟩
 show Calls Tryz.prog 39 #[.agg #[.int .i64 k, .slice kA ki.length kc, .slice uA us.length uc, .string nm, .slice gA al.length gc, .int .i64 e.op, .int .i64 e.n, .string e.name, .slice eA e.kids.length ec], .agg #[.int .i64 k', .slice kA' ki'.length kc', .slice uA' us'.length uc', .string nm', .slice gA' al'.length gc', .int .i64 e'.op, .int .i64 e'.n, .string e'.name, .slice eA' e'.kids.length ec']] w _
 obtain ⟨w0, hw0, hal, hx, hy⟩ := two_box (w := w) (cs := #[.int .i64 k, .slice kA ki.length kc, .slice uA us.length uc, .string nm, .slice gA al.length gc, .int .i64 e.op, .int .i64 e.n, .string e.name, .slice eA e.kids.length ec])
  (ds := #[.int .i64 k', .slice kA' ki'.length kc', .slice uA' us'.length uc', .string nm', .slice gA' al'.length gc', .int .i64 e'.op, .int .i64 e'.n, .string e'.name, .slice eA' e'.kids.length ec']) (t := 43) (u := 43)
 have H : Hid (RowF (Kind.int .i64) P w kA kc ki ∧ RowF (Kind.int .i64) Q w kA' kc' ki' ∧ RowF arK P w gA gc al ∧ RowF arK Q w gA' gc' al' ∧ ki.length = m ∧ ki'.length = m' ∧ al.length = n ∧ al'.length = n') := Lib.hid ⟨ha.kids, hb.kids, ha.args, hb.args, hm, hm', hn, hn'⟩
 have HT : Hid (∀ W, Below w.heap.size w W → Calls Tryz.prog 16 #[.slice uA us.length uc, .slice uA' us'.length uc'] W fun r w' => r = .returned (.bool (decide (us = us'))) ∧ Below W.heap.size W w') := Lib.hid (fun W hW => xtexts_any (ha.units.below hW) (hb.units.below hW))
 have HE : Hid (∀ W, Below w.heap.size w W → Calls Tryz.prog 64 #[exV e eA ec, exV e' eA' ec'] W fun r w' => r = .returned (.bool (decide (e = e'))) ∧ Below W.heap.size W w') := Lib.hid (fun W hW => xeq_any e e' eA ec eA' ec' W (ha.ex.below hW) (hb.ex.below hW))
 have HX := Lib.hid hx
 have HY := Lib.hid hy
 have HW0 := Lib.hid hw0
 have HAL := Lib.hid hal
 have HR := Lib.hid hR0
 simp only [hm, hm', hn, hn'] at hkm hkm' hgm hgm' hkc hkc' hgc hgc' hx hy HX HY HW0 ⊢
 obtain ⟨⟨x0, x1, x2, x3, x4⟩, x5, x6, x7, x8⟩ := nd9 hx
 obtain ⟨⟨y0, y1, y2, y3, y4⟩, y5, y6, y7, y8⟩ := nd9 hy
 have hlx := blk_lt hx
 have hly := blk_lt hy
 clear ha hb hx hy hw0 hal hR hR0 hm hm' hn hn'
 by_cases he : k = k' ∧ nm = nm' ∧ m = m' ∧ n = n'
 ·obtain ⟨rfl, rfl, rfl, rfl⟩ := he
  go_enter Tryz.func39, Tryz.ntmps39
  go_wp2_with fail
  rw [HW0.out]
  go_loopg [5] (m + 1) (fun q s5 w' => ∃ j : Nat, s5 = .int .i64 j ∧ j ≤ m ∧ m - j < q ∧ ki.take j = ki'.take j ∧ Below w0.heap.size w0 w')
  case atStart => exact ⟨0, rfl, by omega, by omega, by simp, Below.refl _ _⟩
  case round =>
   obtain ⟨j, rfl, hj, hjk, htk, hbw⟩ := hrel
   obtain ⟨gk, rfl⟩ : ∃ k, gk = k + 1 := ⟨gk - 1, by omega⟩
   clear x0 x1 x2 x3 x4 x5 x6 x7 x8 y0 y1 y2 y3 y4 y5 y6 y7 y8 hlx hly
   have hxr := (hbw.block _ (blk_lt HX.out)).trans HX.out
   have hyr := (hbw.block _ (blk_lt HY.out)).trans HY.out
   obtain ⟨⟨x0, x1, x2, x3, x4⟩, x5, x6, x7, x8⟩ := nd9 hxr
   obtain ⟨⟨y0, y1, y2, y3, y4⟩, y5, y6, y7, y8⟩ := nd9 hyr
   have hlx := blk_lt hxr
   have hly := blk_lt hyr
   have hS : Below w.heap.size w wr := HAL.out.trans (hbw.mono HAL.out.size)
   by_cases hlt : j < m
   ·have hix : j < ki.length := by rw [H.out.2.2.2.2.1]; exact hlt
    have hiy : j < ki'.length := by rw [H.out.2.2.2.2.2.1]; exact hlt
    obtain ⟨ad, rfl, c0, hcl⟩ := int_some (H.out.1.below hS) j hix
    obtain ⟨bd, rfl, d0, hdl⟩ := int_some (H.out.2.1.below hS) j hiy
    obtain ⟨a, haa⟩ : ∃ x, ki[j] = x := ⟨_, rfl⟩
    obtain ⟨b, hbb⟩ : ∃ x, ki'[j] = x := ⟨_, rfl⟩
    have HS := Lib.hid (⟨hix, hiy, haa, hbb, htk, hbw, hS⟩ : ∃ (h1 : j < ki.length) (h2 : j < ki'.length), ki[j] = a ∧ ki'[j] = b ∧ ki.take j = ki'.take j ∧ Below w0.heap.size w0 wr ∧ Below w.heap.size w wr)
    rw [haa] at c0
    rw [hbb] at d0
    have hz : (j : Int) < m := by omega
    have hz0 : (0 : Int) ≤ j := by omega
    clear htk hbw hxr hyr haa hbb hS hix hiy
    by_cases hab : a = b
    ·subst hab
     go_wp2_with fail
     go_region
     all_goals
      go_wp2_with fail
      go_roundg gk
      case measure => omega
      case rel =>
       obtain ⟨h1, h2, e1, e2, h4, h5, _⟩ := HS.out
       exact ⟨j + 1, by go_num, by omega, by omega, take_next h1 h2 h4 (e1.trans e2.symm), h5.drew⟩
    ·have t1 := beqf hab
     have t2 := bne_of t1
     have HF : Hid (R = false) := Lib.hid (by
      obtain ⟨h1, h2, e1, e2, _⟩ := HS.out
      refine Bool.eq_false_iff.2 (fun hc => ?_)
      have := (HR.out.1 hc).2.1
      exact ne_at h1 h2 (fun e => hab (by rw [← e1, ← e2, e])) this)
     clear hab
     go_wp2_with fail
     go_region
     all_goals
      go_wp2_with fail
      go_ret
      obtain ⟨_, _, _, _, _, _, h6⟩ := HS.out
      exact ⟨by rw [HF.out]; rfl, h6.drew⟩
   ·obtain rfl : j = m := by omega
    have HK := Lib.hid (take_eq H.out.2.2.2.2.1 H.out.2.2.2.2.2.1 htk rfl)
    have HB := Lib.hid hbw
    clear htk hbw hxr hyr hS
    go_wp2_with fail
    clear x0 x1 x2 x3 x4 x5 x6 x7 x8 y0 y1 y2 y3 y4 y5 y6 y7 y8 hlx hly
    go_loopg [6] (n + 1) (fun q s6 w' => ∃ i : Nat, s6 = .int .i64 i ∧ i ≤ n ∧ n - i < q ∧ al.take i = al'.take i ∧ Below w0.heap.size w0 w')
    case atStart => exact ⟨0, rfl, by omega, by omega, by simp, HB.out⟩
    case round =>
     obtain ⟨i, rfl, hi, hik, htk, hbw⟩ := hrel
     obtain ⟨gi, rfl⟩ : ∃ k, gk = k + 1 := ⟨gk - 1, by omega⟩
     have hxr := (hbw.block _ (blk_lt HX.out)).trans HX.out
     have hyr := (hbw.block _ (blk_lt HY.out)).trans HY.out
     obtain ⟨⟨x0, x1, x2, x3, x4⟩, x5, x6, x7, x8⟩ := nd9 hxr
     obtain ⟨⟨y0, y1, y2, y3, y4⟩, y5, y6, y7, y8⟩ := nd9 hyr
     have hlx := blk_lt hxr
     have hly := blk_lt hyr
     have hS : Below w.heap.size w wr := HAL.out.trans (hbw.mono HAL.out.size)
     by_cases hlt : i < n
     ·have hix : i < al.length := by rw [H.out.2.2.2.2.2.2.1]; exact hlt
      have hiy : i < al'.length := by rw [H.out.2.2.2.2.2.2.2]; exact hlt
      have hR1 := H.out.2.2.1.below hS
      have hR2 := H.out.2.2.2.1.below hS
      obtain ⟨ad, rfl⟩ := row_ad hR1 i hix
      obtain ⟨bd, rfl⟩ := row_ad hR2 i hiy
      obtain ⟨uA', uc'', c0, c1, c2, c3, c4, hux, hul⟩ := ar_some hR1 i hix
      obtain ⟨vA', vc'', d0, d1, d2, d3, d4, hvx, hvl⟩ := ar_some hR2 i hiy
      obtain ⟨a, haa⟩ : ∃ x, al[i] = x := ⟨_, rfl⟩
      obtain ⟨b, hbb⟩ : ∃ x, al'[i] = x := ⟨_, rfl⟩
      rw [haa] at c0 c1 c2 c3 c4 hux
      rw [hbb] at d0 d1 d2 d3 d4 hvx
      obtain ⟨an, ae⟩ := a
      obtain ⟨bn, be⟩ := b
      simp only at c0 c1 c2 c3 c4 hux d0 d1 d2 d3 d4 hvx
      have HC : Hid (∀ W, Below wr.heap.size wr W → _) := Lib.hid (fun W hW => xeq_any ae be uA' uc'' vA' vc'' W (hux.below hW) (hvx.below hW))
      obtain ⟨t, ht⟩ : ∃ q, decide (ae = be) = q := ⟨_, rfl⟩
      simp only [ht] at HC
      have HS := Lib.hid (⟨hix, hiy, haa, hbb, htk, hbw, hS, ht, hxr, hyr, hR1, hR2⟩ : ∃ (h1 : i < al.length) (h2 : i < al'.length), al[i] = ⟨an, ae⟩ ∧ al'[i] = ⟨bn, be⟩ ∧ al.take i = al'.take i ∧ Below w0.heap.size w0 wr ∧ Below w.heap.size w wr ∧ decide (ae = be) = t ∧ _ ∧ _ ∧ RowF arK P wr (some ad) gc al ∧ RowF arK Q wr (some bd) gc' al')
      have hz : (i : Int) < n := by omega
      have hz0 : (0 : Int) ≤ i := by omega
      clear hux hvx hR1 hR2 htk hbw hxr hyr haa hbb hS ht hix hiy
      go_wp2_with fail
      go_cut [7] (fun s7 wx => s7 = .bool t ∧ Below wr.heap.size wr wx)
      case first =>
       go_region_with ((go_at_call 64; refine (HC.out _ ?_).mono ?_; (first | exact Below.refl _ _ | exact (Below.refl _ _).drew); rintro r w5 ⟨rfl, hb5⟩; have HB5 := Lib.hid hb5; clear hb5))
       all_goals
        go_wp2_with fail
        go_meet
        exact ⟨rfl, by first | exact HB5.out | exact (Below.refl _ _).drew.trans HB5.out⟩
      case rest =>
       obtain ⟨rfl, hbx⟩ := hcut
       clear c0 c1 c2 c3 c4 d0 d1 d2 d3 d4 x0 x1 x2 x3 x4 x5 x6 x7 x8 y0 y1 y2 y3 y4 y5 y6 y7 y8 hul hvl
       have x4 := (hbx.cell (p := ⟨w.heap.size, 4, none⟩) hlx).trans (by obtain ⟨_, _, _, _, _, _, _, _, hx, _⟩ := HS.out; exact (nd9 hx).1.2.2.2.2)
       have y4 := (hbx.cell (p := ⟨w.heap.size + 1, 4, none⟩) hly).trans (by obtain ⟨_, _, _, _, _, _, _, _, _, hy, _⟩ := HS.out; exact (nd9 hy).1.2.2.2.2)
       have hlx' := Nat.lt_of_lt_of_le hlx hbx.size
       have hly' := Nat.lt_of_lt_of_le hly hbx.size
       have HBX := Lib.hid hbx
       obtain ⟨hi1, hi2, ea, eb, hr1, hr2⟩ : ∃ (h1 : i < al.length) (h2 : i < al'.length), al[i] = ⟨an, ae⟩ ∧ al'[i] = ⟨bn, be⟩ ∧ RowF arK P wr (some ad) gc al ∧ RowF arK Q wr (some bd) gc' al' := by
        obtain ⟨h1, h2, h3, h4, _, _, _, _, _, _, h5, h6⟩ := HS.out
        exact ⟨h1, h2, h3, h4, h5, h6⟩
       obtain ⟨_, _, c0, _, _, _, _, hq1, hul⟩ := ar_some (hr1.below hbx) i hi1
       obtain ⟨_, _, d0, _, _, _, _, hq2, hvl⟩ := ar_some (hr2.below hbx) i hi2
       rw [ea] at c0
       rw [eb] at d0
       simp only at c0 d0
       have fin : Hid (Below w.heap.size w wr ∧ Below w0.heap.size w0 wr) := Lib.hid (by obtain ⟨_, _, _, _, _, h5, h6, _⟩ := HS.out; exact ⟨h6, h5⟩)
       clear ea eb hr1 hr2 hq1 hq2 hbx
       cases t
       ·have HF : Hid (R = false) := Lib.hid (by
         obtain ⟨h1, h2, e1, e2, _, _, _, h8, _⟩ := HS.out
         refine Bool.eq_false_iff.2 (fun hc => ?_)
         refine ne_at h1 h2 (fun e => of_decide_eq_false h8 ?_) (HR.out.1 hc).2.2.2.2.1
         rw [e1, e2] at e
         injection e)
        go_wp2_with fail
        go_region
        all_goals
         go_wp2_with fail
         go_ret
         exact ⟨by rw [HF.out]; rfl, by first | exact (fin.out.1.trans (HBX.out.mono fin.out.1.size)).drew | exact fin.out.1.trans (HBX.out.mono fin.out.1.size)⟩
       ·by_cases hnn : an = bn
        ·subst hnn
         go_wp2_with fail
         go_region
         all_goals
          go_wp2_with fail
          go_roundg gi
          case measure => omega
          case rel =>
           obtain ⟨h1, h2, e1, e2, h4, h5, _, h8, _⟩ := HS.out
           refine ⟨i + 1, by go_num, by omega, by omega, take_next h1 h2 h4 (by rw [e1, e2, of_decide_eq_true h8]), ?_⟩
           first | exact (h5.trans (HBX.out.mono h5.size)).drew | exact h5.trans (HBX.out.mono h5.size)
        ·obtain ⟨t1, t3⟩ := str_ne hnn
         have t2 := bne_of t1
         have t4 := bne_of t3
         have HF : Hid (R = false) := Lib.hid (by
          obtain ⟨h1, h2, e1, e2, _⟩ := HS.out
          refine Bool.eq_false_iff.2 (fun hc => ?_)
          refine ne_at h1 h2 (fun e => hnn ?_) (HR.out.1 hc).2.2.2.2.1
          rw [e1, e2] at e
          injection e)
         clear hnn
         go_wp2_with fail
         go_region
         all_goals
          go_wp2_with fail
          go_ret
          exact ⟨by rw [HF.out]; rfl, by first | exact (fin.out.1.trans (HBX.out.mono fin.out.1.size)).drew | exact fin.out.1.trans (HBX.out.mono fin.out.1.size)⟩
     ·obtain rfl : i = n := by omega
      have HG := Lib.hid (take_eq H.out.2.2.2.2.2.2.1 H.out.2.2.2.2.2.2.2 htk rfl)
      have HB2 := Lib.hid (⟨hbw, hS, hxr, hyr⟩ : _ ∧ _ ∧ _ ∧ _)
      clear htk hbw hxr hyr hS
      go_wp2_with fail
      refine (HT.out _ HB2.out.2.1).mono ?_
      rintro r w3 ⟨rfl, hb3⟩
      obtain ⟨q1, hq1⟩ : ∃ q, decide (us = us') = q := ⟨_, rfl⟩
      rw [hq1]
      have HB3 := Lib.hid (⟨HB2.out.2.1.trans (hb3.mono HB2.out.2.1.size), (hb3.block _ hlx).trans HB2.out.2.2.1, (hb3.block _ hly).trans HB2.out.2.2.2, hq1⟩ : _ ∧ _ ∧ _ ∧ _)
      clear hb3 hq1 x0 x1 x2 x3 x4 x5 x6 x7 x8 y0 y1 y2 y3 y4 y5 y6 y7 y8 hlx hly
      obtain ⟨_, x5, x6, x7, x8⟩ := nd9 HB3.out.2.1
      obtain ⟨_, y5, y6, y7, y8⟩ := nd9 HB3.out.2.2.1
      have hlx := blk_lt HB3.out.2.1
      have hly := blk_lt HB3.out.2.2.1
      go_wp2_with fail
      refine (HE.out _ HB3.out.1).mono ?_
      rintro r w4 ⟨rfl, hb4⟩
      obtain ⟨q2, hq2⟩ : ∃ q, decide (e = e') = q := ⟨_, rfl⟩
      rw [hq2]
      have HB4 := Lib.hid (⟨HB3.out.1.trans (hb4.mono HB3.out.1.size), hq2⟩ : _ ∧ _)
      have HF : Hid (R = (q1 && q2)) := Lib.hid (by
       rw [Bool.eq_iff_iff, HR.out, ← HB3.out.2.2.2, ← hq2]
       simp only [Bool.and_eq_true, decide_eq_true_eq]
       exact ⟨fun h => ⟨h.2.2.1, h.2.2.2.2.2⟩, fun h => ⟨trivial, HK.out, h.1, trivial, HG.out, h.2⟩⟩)
      clear hb4 hq2 x5 x6 x7 x8 y5 y6 y7 y8 hlx hly
      cases q1
      ·go_wp2_with fail
       go_ret
       exact ⟨by rw [HF.out]; rfl, HB4.out.1⟩
      ·go_wp2_with fail
       go_ret
       exact ⟨by rw [HF.out]; rfl, HB4.out.1⟩
 ·have HQ : Hid (R = false) := Lib.hid (Bool.eq_false_iff.2 (fun hc => he (by
   obtain ⟨h1, h2, _, h4, h5, _⟩ := HR.out.1 hc
   exact ⟨h1, h4, by rw [← H.out.2.2.2.2.1, ← H.out.2.2.2.2.2.1, h2], by rw [← H.out.2.2.2.2.2.2.1, ← H.out.2.2.2.2.2.2.2, h5]⟩)))
  have key : (k == k') = false ∨ k = k' ∧ ((nm.data.toList == nm'.data.toList) = false ∧ (nm.toList == nm'.toList) = false ∨ nm = nm' ∧ (((m : Int) == m') = false ∨ m = m' ∧ ((n : Int) == n') = false)) := by
   by_cases e1 : k = k'
   ·refine .inr ⟨e1, ?_⟩
    by_cases e2 : nm = nm'
    ·refine .inr ⟨e2, ?_⟩
     by_cases e3 : m = m'
     ·exact .inr ⟨e3, beqf (fun e4 => he ⟨e1, e2, e3, by omega⟩)⟩
     ·exact .inl (beqf (by omega))
    ·exact .inl (str_ne e2)
   ·exact .inl (beqf e1)
  rcases key with t1 | ⟨rfl, ⟨t1, t3⟩ | ⟨rfl, t1 | ⟨rfl, t1⟩⟩⟩
  all_goals
   have t2 := bne_of t1
   clear he
   go_enter Tryz.func39, Tryz.ntmps39
   go_wp2_with fail
   rw [HW0.out]
   go_ret
   exact ⟨by rw [HQ.out]; rfl, HAL.out⟩
end Go.Proofs.YtgcfjkfipkfijaaGreatDoor
namespace Go.Proofs.YtgcfjkfipkfijaaGreatDoor
open Go Go.RowKit Go.ChangeShapes Go.WideShapes
open Go.Lib (VarReads)
def laids : List (String × DataW Unit) := [("math/bits.deBruijn32tab", Rows.laid_math_bits_deBruijn32tab), ("math/bits.deBruijn64tab", Rows.laid_math_bits_deBruijn64tab), ("internal/strconv.uint64pow10", Rows.laid_internal_strconv_uint64pow10), ("unicode/utf8.acceptRanges", Rows.laid_unicode_utf8_acceptRanges), ("unicode/utf8.first", Rows.laid_unicode_utf8_first)]
theorem own : ownKnob Tryz.prog.godebug = none := by kernel_rfl
noncomputable def laidWorld (os : Os) : World :=
 let w0 := World.doorLaid Tryz.prog 34 os
 { w0 with heap := w0.heap.modify 0 fun
   | .cells _ t frozen => .cells (Lib.firstTab.map fun z => Value.int .u8 z).toArray t frozen
   | o => o }
set_option maxRecDepth 100000 in
theorem laid_met (os : Os) (args : Array Value) : laidMetH Tryz.prog laids ((laidWorld os).forCall (fun _ _ => 0) ⟨#[], args, []⟩).memory :=
 laidMetH_of_parts3 (fuel := 8) (laidMet_of_run' 8 (by kernel_rfl) (by kernel_rfl)) (by kernel_rfl) (by kernel_rfl)
theorem tabIs_of_reads {P : Program} {W : World} {name : String} {k : IntKind} {zs : List Int} {g : Nat} {t e : TypeId} {n : Nat}
  (hg : P.globalNamed name = some g) (hty : (P.globals[g]?).map (·.type) = some t) (ht : P.underlying t = some (.array n e)) (he : P.underlying e = some (.int k)) (hce : P.cellsOf e = 1) (hct : P.cellsOf t = n)
  (h : VarReads P W name (Lib.tabData k zs)) : Lib.TabIs P W name k zs := by
 obtain ⟨g', t', cs, fuel, p, hg', ht', hvar, hd⟩ := h
 obtain rfl := Option.some.inj (hg.symm.trans hg')
 obtain rfl := Option.some.inj (hty.symm.trans ht')
 unfold Lib.TabIs
 rw [hvar, ← Lib.cells_of_tab ht he hce hct hd]
theorem var_lt {P : Program} {W : World} {n : String} {g : Nat} {cs : Array Value} (hg : P.globalNamed n = some g) (h : W.var? P n = some cs) : g < W.heap.size := by
 unfold World.var? at h
 rw [hg] at h
 simp only [Option.bind_some] at h
 cases hh : W.heap[g]? with
 | none => rw [hh] at h; simp at h
 | some o => exact (Array.getElem?_eq_some_iff.1 hh).1
theorem laid_plain {W : World} (h : laidMetH Tryz.prog laids W) : laidMet Tryz.prog laids W := by
 rw [MakeChecks.laidMetH_plain _ _ _ (by kernel_rfl)] at h
 exact h
theorem first_eq : Rows.laid_unicode_utf8_first = Lib.firstData := by kernel_rfl
theorem accept_eq : (Rows.laid_unicode_utf8_acceptRanges : DataW Unit) = Lib.acceptData := by kernel_rfl
theorem pow_eq : (Rows.laid_internal_strconv_uint64pow10 : DataW Unit) = Lib.tabData .u64 Lib.pow10Tab := by kernel_rfl
theorem pow_type : (Tryz.prog.globals[3]?).map (·.type) = some 179 := by kernel_rfl
theorem pow_under : Tryz.prog.underlying 179 = some (.array 20 141) := by kernel_rfl
theorem u64_under : Tryz.prog.underlying 141 = some (.int .u64) := by kernel_rfl
theorem u64_cells : Tryz.prog.cellsOf 141 = 1 := by kernel_rfl
theorem pow_cells : Tryz.prog.cellsOf 179 = 20 := by kernel_rfl
theorem deb_global : Tryz.prog.globalNamed "math/bits.deBruijn64tab" = some 5 := by kernel_rfl
theorem u8_extra : U8Extra Tryz.prog Tryz.lays260_ren := ⟨by kernel_rfl, by kernel_rfl, by kernel_rfl, by kernel_rfl, by kernel_rfl, by kernel_rfl, by kernel_rfl⟩
theorem tabs_of {W : World} (hL0 : laidMetH Tryz.prog laids W) (hsh : W.ShapedOpen Tryz.prog) : Tabs W := by
 have hL := laid_plain hL0
 refine ⟨?_, ?_, ?_, ?_⟩
 ·exact utf8Tabs_of_reads Tryz.lays260 u8_extra (first_eq ▸ Lib.laidMet.reads hL (.tail _ (.tail _ (.tail _ (.tail _ (.head _)))))) (accept_eq ▸ Lib.laidMet.reads hL (.tail _ (.tail _ (.tail _ (.head _)))))
 ·exact Tryz.laysM219.s1_3 W hsh
 ·exact tabIs_of_reads pow_global pow_type pow_under u64_under u64_cells pow_cells (pow_eq ▸ Lib.laidMet.reads hL (.tail _ (.tail _ (.head _))))
 ·obtain ⟨g, t, cs, fuel, p, h1, h2, h3, h4⟩ := Lib.laidMet.reads hL (.tail _ (.head _))
  obtain rfl := Option.some.inj (deb_global.symm.trans h1)
  exact var_lt h1 h3
end Go.Proofs.YtgcfjkfipkfijaaGreatDoor
