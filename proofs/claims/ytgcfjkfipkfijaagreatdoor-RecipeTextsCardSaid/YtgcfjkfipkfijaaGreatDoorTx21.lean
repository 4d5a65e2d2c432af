/- Part 21 of the proof of rtexts_card; no conditions. -/
import Derived.Test.YtgcfjkfipkfijaaGreatDoorTx20
namespace Go.Proofs.YtgcfjkfipkfijaaGreatDoor
open Go Go.RowKit Go.Lib
section
variable {l : List Tok} {g c b0 b : Nat} {A B : Option Addr} {s : RS} {w : World} {nm nv : Value} {ps : List Prm}
theorem step_prm {ops : Array Oper} {o : Oper} {a : Act} {K : Act → World → Prop} {Q : Exit → Act → World → Prop} {E : Prop} {P : Nat → Prop} {n : Nat} {xs : List (Prm × List Value)} (hgd : o.guard = none) (sl x : Operand)
  (ho : o.op = .call { callee := .builtin .append, args := #[sl, x], argTypes := #[23, 23] }) (hs : a.eval sl = .slice B n b) (h : GrowB prmK 71 b0 P w B n b xs) (p : Prm) (ty : TypeId) (hx : a.eval x = .slice (some ⟨w.heap.size, 0, none⟩) 1 1) (hn : n ≤ 1000) (hb0 : b0 ≤ w.heap.size)
  (k : ∀ g cap w', GrowB prmK 71 b0 P w' (some ⟨g, 0, none⟩) (n + 1) cap (xs ++ [(p, [.string p.name, .int .i64 p.n, .bool p.scaled])]) → Same (Value.slice B n b).ownBlock.toList w w' → b0 ≤ g ∧ g < w'.heap.size ∧ ((Value.slice B n b).ownBlock = some g ∨ w.heap.size < g) →
    K (a.put o.dst (.slice (some ⟨g, 0, none⟩) (n + 1) cap)) w') : if Region.wanted o (yielded ops a.tmps) = true then Oper.wp Tryz.prog o a (w.alloc (.cells #[.string p.name, .int .i64 p.n, .bool p.scaled] ty)).drew K Q else E := by
 obtain ⟨i0, hi0, hz0, hz1, hz2⟩ := info_parts info_prm
 refine step_append_lies _ hgd sl x _ ho b0 71 i0 _ 3 32 Tryz.underlying23 hi0 hz0 hz1 hz2 rfl (by omega) (.slice B n b) n (xs.flatMap (·.2)) hs ((h.own.alloc _).drew) ⟨w.heap.size, 0, none⟩ 1 1 [.string p.name, .int .i64 p.n, .bool p.scaled] hx rfl ?_ (by simp [Value.oneCell']) (by decide) (by unfold maxLen; omega) (by omega) (by simp; omega) (w.heap.size + 1) (by simp) ?_
 ·intro j u hu
  have := blk_cell (heap_alloc_new w (.cells #[.string p.name, .int .i64 p.n, .bool p.scaled] ty)) j
  have e : (⟨w.heap.size, 0, none⟩ : Addr).add j = ⟨w.heap.size, j, none⟩ := by unfold Addr.add; split <;> simp_all
  rw [e]
  refine this.trans ?_
  simpa using hu
 ·intro g cap w6 hown hg hat hlt
  have hg' : (w.alloc (.cells #[.string p.name, .int .i64 p.n, .bool p.scaled] ty)).grownBy w6 (Value.slice B n b).ownBlock := ⟨hg.os, hg.tape, hg.output, hg.size, hg.block⟩
  have hgb := own_block hown g rfl
  have hs6 : Same (Value.slice B n b).ownBlock.toList w w6 := ((Same.refl _ w).alloc _).grown hg' (fun k hk => .inl (by rw [hk]; simp))
  exact k g cap w6 (h.push (Av.prm _ _ p) hg' hown hat) hs6 ⟨hgb.1, hgb.2, hat.imp id (fun e => by omega)⟩
set_option maxHeartbeats 8000000 in
set_option maxRecDepth 100000 in
theorem yparam_any (T : Toks l) (h : XP l g A c b0 w s nm nv B b ps) (h4 : ps.length ≤ 4) : Calls Tryz.prog 36 #[.pointer (some ⟨g, 0, none⟩)] w (YPrm l g A c b0 nm nv B b ps (if ps.length = 4 then (⟨⟨#[]⟩, 0, false⟩, rFail 2 s) else prmP l (ps.map (·.name)) (rMust l wParam s)) w) := by
 have H := Lib.hid h
 have hg := h.rdr.lt
 have hgb := h.gb
 obtain ⟨⟨q0, q1, q2, q3, q4, q5⟩, _⟩ := blk6 h.rdr.rd
 by_cases h40 : ps.length = 4
 ·have h4b : ((ps.length : Int) == 4) = true := by rw [beq_iff_eq]; omega
  rw [if_pos h40]
  clear h h40
  go_enter Tryz.func36, Tryz.ntmps36
  go_wp2_with fail
  refine (yfail_any H.out.rdr 2).mono ?_
  rintro r w1 ⟨rfl, hr1, hs1⟩
  have H1 := Lib.hid (H.out.step hs1 hr1 (rFail_on 2 (by decide) H.out.rdr.inr).1)
  have HS := Lib.hid hs1
  clear hr1 hs1
  go_wp2_with fail
  go_end0
  exact ⟨rfl, B, b, ps, H1.out, fun hb => absurd hb (rFail_bad (by decide) s), h4, HS.out.mono (fun x hx => by simp at hx; subst hx; simp), fun k hk => .inl hk⟩
 ·have h4b : ((ps.length : Int) == 4) = false := by rw [beq_eq_false_iff_ne]; omega
  have hl3 : ps.length ≤ 3 := by omega
  rw [if_neg h40]
  obtain ⟨s1, h1⟩ : ∃ x, rMust l wParam s = x := ⟨_, rfl⟩
  obtain ⟨a, ha⟩ : ∃ a, rName l (ps.map (·.name)) s1 = a := ⟨_, rfl⟩
  obtain ⟨s7, h7⟩ : ∃ x, rMust l ⟨#[58, 61]⟩ a.2 = x := ⟨_, rfl⟩
  obtain ⟨⟨m8, s8⟩, h8⟩ : ∃ x, rTakes l ⟨#[45]⟩ s7 = x := ⟨_, rfl⟩
  have hBK := h.rows.blk
  have hi1 := (rMust_on T.fin wParam (by decide) h.rdr.inr).1
  rw [h1] at hi1 ⊢
  have HQ := Lib.hid (⟨h1, ha, h7, h8, hi1, hBK⟩ : _ ∧ _ ∧ _ ∧ _ ∧ _ ∧ _)
  clear h h40 h1 ha h7 h8 hi1 hBK h4
  go_enter Tryz.func36, Tryz.ntmps36
  go_wp2_with fail
  refine (ymust_any T H.out.rdr wParam (by decide)).mono ?_
  rw [HQ.out.1]
  rintro r w1 ⟨rfl, hr1, hs1⟩
  have H1 := Lib.hid (⟨H.out.step hs1 hr1 HQ.out.2.2.2.2.1, hs1⟩ : _ ∧ _)
  clear hr1 hs1 q0 q1 q2 q3 q4 q5 hg
  go_wp2_with fail
  go_loopg [2, 3] 5 (fun k s2 s3 wr => ∃ done rest V v, s2 = .slice V done.length v ∧ s3 = .int .i64 done.length ∧ done ++ rest = ps ∧ rest.length < k ∧ XP l g A c b0 wr s1 nm nv B b ps ∧ GrowB Kind.str 9 w.heap.size (fun k => k < w.heap.size) wr V done.length v ((done.map (·.name)).map sE) ∧ Same [g] w wr)
  case atStart => exact ⟨[], ps, none, 0, rfl, rfl, rfl, by omega, H1.out.1, GrowB.nil _ _ _ _ _, H1.out.2⟩
  case round =>
   obtain ⟨done, rest, V, v, rfl, rfl, hdr, hrk, hX, hV, hSm⟩ := hrel
   obtain ⟨gk, rfl⟩ : ∃ k, gk = k + 1 := ⟨gk - 1, by omega⟩
   have HR := Lib.hid (⟨hdr, hX, hV, hSm⟩ : _ ∧ _ ∧ _ ∧ _)
   obtain ⟨⟨q0, q1, q2, q3, q4, q5⟩, _⟩ := blk6 hX.rdr.rd
   have hgl := hX.rdr.lt
   have hrow := hX.row
   cases rest with
   | nil =>
    obtain rfl : done = ps := by simpa using hdr
    have hlt : decide ((done.length : Int) < done.length) = false := by simp
    have HNM := Lib.hid (yname_any T hX.rdr (cc := v) (had := done.map (·.name)) hV.strs 4 (by rw [List.length_map]; omega))
    have hmost : rMost l (((done.map (·.name)).length : Nat) : Int) 4 s1 = s1 := by
     unfold rMost
     rw [if_neg (fun hc => by have := hc.1; rw [List.length_map] at this; omega)]
    rw [hmost, HQ.out.2.1, List.length_map] at HNM
    have hin2 : InR l a.2 := by have := (rName_on T.fin (done.map (·.name)) hX.rdr.inr).1; rwa [HQ.out.2.1] at this
    have HI2 := Lib.hid hin2
    clear hdr hX hV hSm hrow hrk hmost hin2
    go_wp2_with fail
    refine HNM.out.mono ?_
    rintro e w2 ⟨rfl, hr2, hs2⟩
    have H2 := Lib.hid (⟨HR.out.2.1.step hs2 hr2 HI2.out, HR.out.2.2.2.then_ hs2⟩ : _ ∧ _)
    clear hr2 hs2 q0 q1 q2 q3 q4 q5 hgl
    go_upto_region 9 with fail
    obtain ⟨K, hK⟩ : ∃ K, w2.heap.size = K := ⟨_, rfl⟩
    obtain ⟨w3, hw3⟩ : ∃ w3, w2.alloc (.cells #[.string a.1, .int .i64 0, .bool false] 71 (0, 0)) = w3 := ⟨_, rfl⟩
    have hb3 : Below w2.heap.size w2 w3 := hw3 ▸ (Below.refl _ _).alloc (Nat.le_refl _) _
    have hk3 : w3.heap[K]? = some (.cells #[.string a.1, .int .i64 0, .bool false] 71 (0, 0)) := by rw [← hK, ← hw3]; exact heap_alloc_new _ _
    rw [hw3, hK]
    have hBw : (Value.slice B done.length b).ownBlock ≠ some K := fun e => by have := HQ.out.2.2.2.2.2 K e; have := H2.out.2.size; omega
    have HB3 := Lib.hid (XB.mk (w0 := w) (p := ⟨a.1, 0, false⟩) (H2.out.1.step (Same.of_below hb3) (H2.out.1.rdr.step hb3).rd H2.out.1.rdr.inr) hk3 ⟨hK ▸ H2.out.2.size, H.out.lo, hBw⟩ (H2.out.2.below_ hb3))
    clear hb3 hk3 hw3 hBw hK H2 HI2 HNM HR
    go_wp2_with fail
    refine (ymust_any T HB3.out.xp.rdr ⟨#[58, 61]⟩ (by decide)).mono ?_
    rw [HQ.out.2.2.1]
    rintro e w4 ⟨rfl, hr4, hs4⟩
    have HB4 := Lib.hid (HB3.out.step hs4 hr4 (by have := (rMust_on T.fin ⟨#[58, 61]⟩ (by decide) HB3.out.xp.rdr.inr).1; rwa [HQ.out.2.2.1] at this))
    clear hr4 hs4
    go_wp2_with fail
    refine (yis_any T HB4.out.xp.rdr ⟨#[45]⟩ (by decide)).mono ?_
    rw [HQ.out.2.2.2.1]
    rintro e w5 ⟨rfl, hb5⟩
    have HB5 := Lib.hid (HB4.out.below hb5)
    clear hb5
    go_upto_if 48 with fail
    go_cut [] (fun wx => XB l g A c b0 w wx s8 nm nv B b done K ⟨a.1, 0, false⟩)
    case first =>
     have h8 := HQ.out.2.2.2.1
     cases m8
     ·have h := takes_no (l := l) (x := ⟨#[45]⟩) (s := s7) (by rw [h8])
      rw [h8] at h
      have HE := Lib.hid h
      clear h h8
      go_wp2_with fail
      go_meet
      exact HE.out ▸ HB5.out
     ·have h := must_takes (l := l) (x := ⟨#[45]⟩) (s := s7) (by rw [h8])
      rw [h8] at h
      have HE := Lib.hid h
      clear h h8
      go_wp2_with fail
      refine (ymust_any T HB5.out.xp.rdr ⟨#[45]⟩ (by decide)).mono ?_
      rw [HE.out]
      rintro e w6 ⟨rfl, hr6, hs6⟩
      have HB6 := Lib.hid (HB5.out.step hs6 hr6 (by have := (rMust_on T.fin ⟨#[45]⟩ (by decide) HB5.out.xp.rdr.inr).1; rwa [HE.out] at this))
      clear hr6 hs6
      go_wp2_with fail
      go_meet
      exact HB6.out
    case rest =>
     have HB6 := Lib.hid hcut
     have HNX := Lib.hid (ynext_any hcut.xp.rdr)
     obtain ⟨k, hk⟩ : ∃ k, nextT l s8 = k := ⟨_, rfl⟩
     rw [hk] at HNX
     have HK := Lib.hid hk
     clear hcut hk HB3 HB4 HB5
     go_wp2_with fail
     refine HNX.out.mono ?_
     rintro e w7 ⟨rfl, hb7⟩
     have HB7 := Lib.hid (HB6.out.below hb7)
     clear hb7
     go_upto_region 14 with fail
     obtain ⟨J, hJ⟩ : ∃ J, w7.heap.size = J := ⟨_, rfl⟩
     obtain ⟨w8, hw8⟩ : ∃ w8, w7.alloc (.cells #[.int .i64 k.kind, .string k.text, .int .i64 k.n, .int .i64 k.at_] 60 (0, 0)) = w8 := ⟨_, rfl⟩
     have hb8 : Below w7.heap.size w7 w8 := hw8 ▸ (Below.refl _ _).alloc (Nat.le_refl _) _
     have hk8 : w8.heap[J]? = some (.cells #[.int .i64 k.kind, .string k.text, .int .i64 k.n, .int .i64 k.at_] 60 (0, 0)) := by rw [← hJ, ← hw8]; exact heap_alloc_new _ _
     rw [hw8, hJ]
     have hJ0 : K < J := by have := blk_lt HB7.out.box; omega
     have hJ1 : g < J := by have := HB7.out.xp.rdr.lt; omega
     have HB8 := Lib.hid (⟨HB7.out.below hb8, hk8⟩ : _ ∧ _)
     obtain ⟨x0, x1, x2, x3⟩ := blk4a hk8
     have hlj := blk_lt hk8
     clear hb8 hk8 hw8 hJ
     by_cases hk2 : k.kind = 2
     ·have t1 : (k.kind == 2) = true := beq_iff_eq.2 hk2
      have t2 : (k.kind != 2) = false := by simpa using hk2
      have htwo := next_two HK.out hk2
      have hon := rPass_on T.fin HB8.out.1.xp.rdr.inr (by rw [htwo.2, hk2]; decide)
      obtain ⟨n, hn⟩ : ∃ n, (if m8 = true then wrap64 (-k.n) else k.n) = n := ⟨_, rfl⟩
      have hP := prmN_ok HK.out hk2 m8
      rw [hn] at hP
      obtain ⟨⟨z, s12⟩, h12⟩ : ∃ x, rTakes l wScaled (rPass s8) = x := ⟨_, rfl⟩
      have hPP : prmP l (done.map (·.name)) s1 = (⟨a.1, n, z⟩, rMust l ⟨#[59]⟩ s12) := by
       unfold prmP
       simp only [HQ.out.2.1, HQ.out.2.2.1, HQ.out.2.2.2.1, hP, h12]
      have HP := Lib.hid (⟨hPP, h12, hn, hon.1⟩ : _ ∧ _ ∧ _ ∧ _)
      obtain ⟨⟨q0, q1, q2, q3, q4, q5⟩, f1, f2, f4, f5⟩ := blk6 HB8.out.1.xp.rdr.rd
      have hadd : IntKind.i64.wrap (s8.at_ + 1) = s8.at_ + 1 := by have h1 := HB8.out.1.xp.rdr.inr.1; have h2 := HB8.out.1.xp.rdr.inr.2.1; have h3 := HB8.out.1.xp.rdr.row.1; have h4 := (HB8.out.1.xp.rdr.row.2 [] (by simp)).1; exact IntWalk.i64_in _ (by omega)
      have HB9 := Lib.hid (HB8.out.1.step (s' := rPass s8) ((Same.refl [g] w8).setCell (p := ⟨g, 1, none⟩) (.inl (by simp)) (.int .i64 (s8.at_ + 1))) (HB8.out.1.xp.rdr.put 1 _) hon.1)
      have hJg : J ≠ g := by omega
      have HJ9 := Lib.hid (((Same.refl [g] w8).setCell (p := ⟨g, 1, none⟩) (.inl (by simp)) (.int .i64 (s8.at_ + 1))).heap (by simpa using hJg) HB8.out.2)
      have hk1 : w8.cell? ⟨K, 1, none⟩ = some (.int .i64 0) := (blk_cell HB8.out.1.box 1).trans rfl
      have hf1 := blk_frozen HB8.out.1.box 1
      have hKg : K ≠ g := by have := HB8.out.1.far.1; have := HB8.out.1.far.2.1; omega
      have hgl := HB8.out.1.xp.rdr.lt
      have hKl := blk_lt HB8.out.1.box
      clear hk2 htwo hon hn hP h12 hPP
      go_upto_if 69 with fail
      go_cut [] (fun wx => XB l g A c b0 w wx (rPass s8) nm nv B b done K ⟨a.1, n, false⟩)
      case first =>
       cases m8
       ·have hn : k.n = n := HP.out.2.2.1
        have HX := Lib.hid (HB9.out.put 1 (.int .i64 k.n) ⟨a.1, n, false⟩ (by rw [hn]; rfl))
        clear hn
        go_wp2_with fail
        go_meet
        exact HX.out
       ·have hn : wrap64 (-k.n) = n := HP.out.2.2.1
        have hx9 := HB9.out.put 1 (.int .i64 k.n) ⟨a.1, k.n, false⟩ rfl
        have HX := Lib.hid (hx9.put 1 (.int .i64 (wrap64 (-k.n))) ⟨a.1, n, false⟩ (by rw [hn]; rfl))
        clear hn hx9
        go_wp2_with fail
        go_meet
        exact HX.out
      case rest =>
       have HX := Lib.hid hcut
       clear hcut q0 q1 q2 q3 q4 q5 f1 f2 f4 f5 hadd hk1 hf1 hgl hKl x0 x1 x2 x3 hlj HB9 HJ9 HB8 HB7 HB6 HNX
       go_wp2_with fail
       refine (yis_any T HX.out.xp.rdr wScaled (by decide)).mono ?_
       rw [HP.out.2.1]
       rintro e w9 ⟨rfl, hb9⟩
       have HB9 := Lib.hid (HX.out.below hb9)
       have HB10 := Lib.hid (HB9.out.put 2 (.bool z) ⟨a.1, n, z⟩ rfl)
       have hk2 : w9.cell? ⟨K, 2, none⟩ = some (.bool false) := (blk_cell HB9.out.box 2).trans rfl
       have hf2 := blk_frozen HB9.out.box 2
       clear hb9
       go_upto_if 78 with fail
       go_cut [] (fun wx => XB l g A c b0 w wx s12 nm nv B b done K ⟨a.1, n, z⟩)
       case first =>
        have h8 := HP.out.2.1
        cases z
        ·have h := takes_no (l := l) (x := wScaled) (s := rPass s8) (by rw [h8])
         rw [h8] at h
         have HE := Lib.hid h
         clear h h8
         go_wp2_with fail
         go_meet
         exact HE.out ▸ HB10.out
        ·have h := must_takes (l := l) (x := wScaled) (s := rPass s8) (by rw [h8])
         rw [h8] at h
         have HE := Lib.hid h
         clear h h8
         go_wp2_with fail
         refine (ymust_any T HB10.out.xp.rdr wScaled (by decide)).mono ?_
         rw [HE.out]
         rintro e w11 ⟨rfl, hr11, hs11⟩
         have HB11 := Lib.hid (HB10.out.step hs11 hr11 (by have := (rMust_on T.fin wScaled (by decide) HB10.out.xp.rdr.inr).1; rwa [HE.out] at this))
         clear hr11 hs11
         go_wp2_with fail
         go_meet
         exact HB11.out
       case rest =>
        have HB12 := Lib.hid hcut
        clear hcut hk2 hf2
        go_wp2_with fail
        refine (ymust_any T HB12.out.xp.rdr ⟨#[59]⟩ (by decide)).mono ?_
        rintro e w13 ⟨rfl, hr13, hs13⟩
        have HB13 := Lib.hid (HB12.out.step hs13 hr13 (rMust_on T.fin ⟨#[59]⟩ (by decide) HB12.out.xp.rdr.inr).1)
        obtain ⟨⟨q0, q1, q2, q3, q4, q5⟩, f1, f2, f4, f5⟩ := blk6 HB13.out.xp.rdr.rd
        have hgl := HB13.out.xp.rdr.lt
        have k0 : w13.cell? ⟨K, 0, none⟩ = some (.string a.1) := (blk_cell HB13.out.box 0).trans rfl
        have k1 : w13.cell? ⟨K, 1, none⟩ = some (.int .i64 n) := (blk_cell HB13.out.box 1).trans rfl
        have k2 : w13.cell? ⟨K, 2, none⟩ = some (.bool z) := (blk_cell HB13.out.box 2).trans rfl
        have hKl := blk_lt HB13.out.box
        clear hr13 hs13 hKg hJg
        go_upto_region 24 with fail
        have hgn : g ∉ (Value.slice B done.length b).ownBlock.toList := fun hc => by have := (HB13.out.xp.rows.blk g (by simpa using hc)).1; omega
        go_region_law ((refine step_prm (by rfl) _ _ (by rfl) (by rfl) HB13.out.xp.rows ⟨a.1, n, z⟩ _ (by rfl) (by omega) HB13.out.xp.lo ?_; intro g2 cap w6 hG hS hg2; obtain ⟨⟨z0, z1, z2, z3, z4, z5⟩, _, _, y4, y5⟩ := blk6 (hS.heap hgn HB13.out.xp.rdr.rd); have hl6 := Nat.lt_of_lt_of_le hgl hS.size))
        all_goals
         have HF := Lib.hid (⟨HB13.out.xp.laid hG hS, hg2⟩ : _ ∧ _)
         clear hG hS hg2
         go_wp2_with fail
         go_end0
         have hsz := HB13.out.same.size
         rw [HP.out.1]
         exact ⟨rfl, some ⟨g2, 0, none⟩, cap, _, HF.out.1.1, fun _ => rfl, by simp; omega, (HB13.out.same.mono (fun x hx => by simp at hx; subst hx; simp)).trans HF.out.1.2 (fun x hx => .inl hx), fun k hk => by obtain rfl : g2 = k := (by have : some g2 = some k := hk; exact Option.some.inj this); exact HF.out.2.2.2.imp id (fun h => by omega)⟩
     ·have t1 : (k.kind == 2) = false := beqf hk2
      have t2 : (k.kind != 2) = true := by simpa using hk2
      have HE := Lib.hid (prmP_bad HQ.out.2.1 HQ.out.2.2.1 HQ.out.2.2.2.1 HK.out hk2)
      clear hk2
      go_wp2_with fail
      refine (yfail_any HB8.out.1.xp.rdr 11).mono ?_
      rintro e w9 ⟨rfl, hr9, hs9⟩
      have HB9 := Lib.hid (HB8.out.1.step hs9 hr9 (rFail_on 11 (by decide) HB8.out.1.xp.rdr.inr).1)
      clear hr9 hs9
      go_wp2_with fail
      go_end0
      exact ⟨rfl, B, b, done, HE.out.1 ▸ HB9.out.xp, fun hb => absurd (HE.out.1 ▸ hb) HE.out.2, by omega, HB9.out.same.mono (fun x hx => by simp at hx; subst hx; simp), fun k hk => .inl hk⟩
   | cons p rest =>
    have hlen : done.length + (rest.length + 1) = ps.length := by rw [← hdr]; simp
    have hlt : decide ((done.length : Int) < ps.length) = true := by rw [decide_eq_true_iff]; omega
    have hdl : done.length < ps.length := by omega
    obtain ⟨ad, rfl, hc0, _⟩ := prm_some hrow done.length hdl
    have hpn : ps[done.length].name = p.name := by simp only [← hdr]; simp
    rw [hpn] at hc0
    have hd0 : (0 : Int) ≤ done.length := by omega
    have hdz : (done.length : Int) < ps.length := by omega
    have hlz := World.block_lt_of_cell? wr _ hc0
    have hcap := hrow.1
    clear hdr hX hV hSm hrow hpn
    go_wp2_with (at_builtin; refine Hid.out ?_)
    refine Lib.hid ?_
    refine wpList_grow (by rfl) _ _ _ (by rfl) (.string ⟨#[]⟩) 16 Tryz.underlying37 info_str (by rfl) (by decide) (by rfl) HR.out.2.2.1 p.name #[.string p.name] _ (by rfl) (by rfl) (by simp [Value.oneCell']) (Av.str _ _ _) (by unfold maxLen; omega) (by omega) HR.out.2.2.2.size ?_
    intro g2 cap2 w2 hG2 hS2 hg2
    have hX2 := HR.out.2.1.far hS2 (fun k hk => by
     have h0 := HR.out.2.2.1.blk k (by simpa using hk)
     have h1 := H.out.rdr.lt
     exact ⟨by omega, fun e => by have := HQ.out.2.2.2.2.2 k e; omega⟩)
    have hSm2 : Same [g] w w2 := HR.out.2.2.2.trans hS2 (fun x hx => .inr (HR.out.2.2.1.blk x (by simpa using hx)).1)
    have H2 := Lib.hid (⟨hX2, hG2, hSm2⟩ : _ ∧ _ ∧ _)
    clear hG2 hS2 hg2 hX2 hSm2
    go_wp2_with fail
    go_roundg gk
    case measure => omega
    case rel =>
     exact ⟨done ++ [p], rest, some ⟨g2, 0, none⟩, cap2, by simp, by simp, by rw [← HR.out.1]; simp, by simp at hrk; omega, H2.out.1, by rw [List.map_append, List.map_append]; have := H2.out.2.1; rw [show (done ++ [p]).length = done.length + 1 by simp]; exact this, H2.out.2.2⟩
end
end Go.Proofs.YtgcfjkfipkfijaaGreatDoor
namespace Go.Proofs.YtgcfjkfipkfijaaGreatDoor
open Go Go.RowKit Go.Lib
def kidsOn (js : List Int) (x : Nd) : Nd := { x with kids := x.kids ++ js }
theorem kidsOn_nil (x : Nd) : kidsOn [] x = x := by unfold kidsOn; rw [List.append_nil]
theorem kidsOn_two (a b : List Int) (x : Nd) : kidsOn b (kidsOn a x) = kidsOn (a ++ b) x := by unfold kidsOn; simp only [List.append_assoc]
theorem modify_at (xs : List Nd) (i j : Nat) (f : Nd → Nd) : (xs.modify i f)[j]? = if i = j then xs[j]?.map f else xs[j]? := by
 rw [List.getElem?_modify]
 by_cases h : i = j
 ·rw [if_pos h]
  simp only [if_pos h]
  rfl
 ·rw [if_neg h]
  simp only [if_neg h]
  cases xs[j]? <;> rfl
theorem modify_left {xs ys : List Nd} {i : Nat} (h : i < xs.length) (f : Nd → Nd) : (xs ++ ys).modify i f = xs.modify i f ++ ys := by
 apply List.ext_getElem?
 intro j
 rw [modify_at, List.getElem?_append, List.getElem?_append, modify_at, List.length_modify]
 by_cases hj : j < xs.length
 ·rw [if_pos hj, if_pos hj]
 ·rw [if_neg hj, if_neg hj, if_neg (by omega)]
theorem modify_last (xs ys : List Nd) (x : Nd) (f : Nd → Nd) : (xs ++ x :: ys).modify xs.length f = xs ++ f x :: ys := by
 apply List.ext_getElem?
 intro j
 rw [modify_at, List.getElem?_append, List.getElem?_append]
 by_cases hj : j < xs.length
 ·rw [if_pos hj, if_pos hj, if_neg (by omega)]
 ·rw [if_neg hj, if_neg hj]
  by_cases he : xs.length = j
  ·subst he; simp
  ·obtain ⟨k, hk⟩ : ∃ k, j - xs.length = k + 1 := ⟨j - xs.length - 1, by omega⟩
   rw [hk, if_neg he]
   simp
theorem modify_two (xs : List Nd) (i : Nat) (a b : List Int) : (xs.modify i (kidsOn a)).modify i (kidsOn b) = xs.modify i (kidsOn (a ++ b)) := by
 apply List.ext_getElem?
 intro j
 rw [modify_at, modify_at, modify_at]
 by_cases hj : i = j
 ·simp only [if_pos hj, Option.map_map]
  congr 1
  funext x
  exact kidsOn_two a b x
 ·simp only [if_neg hj]
theorem modify_nil (xs : List Nd) (i : Nat) : xs.modify i (kidsOn []) = xs := by
 apply List.ext_getElem?
 intro j
 rw [modify_at]
 by_cases hj : i = j
 ·rw [if_pos hj]; cases xs[j]? <;> simp [kidsOn_nil]
 ·rw [if_neg hj]
end Go.Proofs.YtgcfjkfipkfijaaGreatDoor
namespace Go.Proofs.YtgcfjkfipkfijaaGreatDoor
open Go Go.RowKit Go.Lib
structure YSt (l : List Tok) (g : Nat) (A : Option Addr) (c b0 more : Nat) (nm pV : Value) (w : World) (s : RS) (B : Option Addr) (n b : Nat) (qs : List NQ) : Prop where
 xn : XN l g A c b0 w s nm pV B n b qs
 fit : n + more ≤ 24
 kids : ∀ q, q ∈ qs → q.nd.kids.length < n
 cnt : s.bad = 0 → s.nodes = n + more
structure YWay (l : List Tok) (g : Nat) (A : Option Addr) (c b0 more : Nat) (nm pV : Value) (B : Option Addr) (n b : Nat) (qs : List NQ) (of : Nat) (w : World) (s' : RS) (w' : World) (ks : List Int) (ns : List Nd) (B' : Option Addr) (n' b' : Nat) (qs' : List NQ) : Prop where
 st : YSt l g A c b0 more nm pV w' s' B' n' b' qs'
 was : qs.length = n
 len : n ≤ n'
 same : Same (g :: blks (.slice B n b) qs) w w'
 blk : ∀ k, k ∈ blks (.slice B' n' b') qs' → k ∈ blks (.slice B n b) qs ∨ w.heap.size ≤ k
 nds : s'.bad = 0 → qs'.map (·.nd) = (qs.map (·.nd)).modify of (kidsOn ks) ++ ns
def YNd (l : List Tok) (g : Nat) (A : Option Addr) (c b0 more : Nat) (nm pV : Value) (B : Option Addr) (n b : Nat) (qs : List NQ) (of : Nat) (ks : List Int) (ns : List Nd) (s' : RS) (w : World) (r : Ending) (w' : World) : Prop :=
 r = .returned (.tuple #[]) ∧ ∃ B' n' b' qs', YWay l g A c b0 more nm pV B n b qs of w s' w' ks ns B' n' b' qs'
def NodeX (l : List Tok) (g : Nat) (A : Option Addr) (c b0 : Nat) (nm pV : Value) (m : Int) (nd : RS → Pc × RS) : Prop :=
 ∀ (s : RS) (w : World) (B : Option Addr) (n b : Nat) (qs : List NQ) (of more : Nat), YSt l g A c b0 more nm pV w s B n b qs → s.bad = 0 → m ≤ s.nodes → of < n →
  Calls Tryz.prog 63 #[.pointer (some ⟨g, 0, none⟩), .int .i64 of, .int .i64 more] w (YNd l g A c b0 more nm pV B n b qs of [(n : Int)] (numP n (nd s).1) (nd s).2 w)
section
variable {l : List Tok} {g c b0 more of n b n' b' : Nat} {A B B' : Option Addr} {s s' : RS} {w w' wr : World} {nm pV : Value} {qs qs' : List NQ} {ks : List Int} {ns : List Nd} {m : Int} {nd : RS → Pc × RS}
theorem YSt.step (h : YSt l g A c b0 more nm pV w s B n b qs) (hs : Same [g] w w') (hr : XdP w' g A l.length c s' (nm, pV, .slice B n b)) (hi : InR l s') (hn : s'.bad = 0 → s.bad = 0 ∧ s'.nodes = s.nodes) : YSt l g A c b0 more nm pV w' s' B n b qs :=
 ⟨h.xn.step hs hr hi, h.fit, h.kids, fun hb => by rw [(hn hb).2]; exact h.cnt (hn hb).1⟩
theorem YWay.refl (h : YSt l g A c b0 more nm pV w s B n b qs) : YWay l g A c b0 more nm pV B n b qs of w s w [] [] B n b qs :=
 ⟨h, h.xn.nodes.len, Nat.le_refl _, Same.refl _ _, fun k hk => .inl hk, fun _ => by rw [modify_nil, List.append_nil]⟩
theorem YWay.step (h : YWay l g A c b0 more nm pV B n b qs of w s wr ks ns B' n' b' qs') (hs : Same [g] wr w') (hr : XdP w' g A l.length c s' (nm, pV, .slice B' n' b')) (hi : InR l s') (hn : s'.bad = 0 → s.bad = 0 ∧ s'.nodes = s.nodes) : YWay l g A c b0 more nm pV B n b qs of w s' w' ks ns B' n' b' qs' :=
 ⟨h.st.step hs hr hi hn, h.was, h.len, h.same.then_ (hs.mono (fun x hx => by simp at hx; subst hx; simp)), h.blk, fun hb => h.nds (hn hb).1⟩
theorem YWay.below (h : YWay l g A c b0 more nm pV B n b qs of w s wr ks ns B' n' b' qs') (hb : Below wr.heap.size wr w') : YWay l g A c b0 more nm pV B n b qs of w s w' ks ns B' n' b' qs' :=
 h.step (Same.of_below hb) (h.st.xn.rdr.step hb).rd h.st.xn.rdr.inr (fun hb => ⟨hb, rfl⟩)
theorem YWay.nextOne {s1 s2 : RS} {w1 w2 : World} {B1 B2 : Option Addr} {n1 b1 n2 b2 : Nat} {qs1 qs2 : List NQ} {ps : List Pc} {p : Pc} (h1 : YWay l g A c b0 more nm pV B n b qs of w s1 w1 (numPs n ps).2 (numPs n ps).1 B1 n1 b1 qs1) (hb : s1.bad = 0) (hof : of < n)
  (h2 : YWay l g A c b0 more nm pV B1 n1 b1 qs1 of w1 s2 w2 [(n1 : Int)] (numP n1 p) B2 n2 b2 qs2) : YWay l g A c b0 more nm pV B n b qs of w s2 w2 (numPs n (ps ++ [p])).2 (numPs n (ps ++ [p])).1 B2 n2 b2 qs2 := by
 have hz := h1.same.size
 refine ⟨h2.st, h1.was, Nat.le_trans h1.len h2.len, h1.same.trans h2.same (fun x hx => ?_), fun k hk => ?_, fun hb2 => ?_⟩
 ·rcases List.mem_cons.1 hx with rfl | hx
  ·exact .inl (by simp)
  ·exact (h1.blk x hx).imp (fun h => List.mem_cons_of_mem _ h) id
 ·rcases h2.blk k hk with h | h
  ·exact h1.blk k h
  ·exact .inr (by omega)
 ·have e1 := h1.nds hb
  have hl := congrArg List.length e1
  have hq := h1.st.xn.nodes.len
  have hw := h1.was
  have h0 : (n1 : Int) = n + (numPs n ps).1.length := by simp only [List.length_map, List.length_append, List.length_modify] at hl; omega
  rw [h2.nds hb2, e1, modify_left (by rw [List.length_modify, List.length_map]; omega), modify_two, numPs_snoc, List.append_assoc, h0]
set_option maxHeartbeats 8000000 in
set_option maxRecDepth 100000 in
theorem ybody_any (T : Toks l) (hn : NodeX l g A c b0 nm pV m nd) (hon : NodeOn l m nd) (h : YSt l g A c b0 more nm pV w s B n b qs) (hm : m ≤ s.nodes) (hof : of < n) :
  Calls Tryz.prog 37 #[.pointer (some ⟨g, 0, none⟩), .int .i64 of, .int .i64 more] w (YNd l g A c b0 more nm pV B n b qs of (numPs n (blockP l nd s).1).2 (numPs n (blockP l nd s).1).1 (blockP l nd s).2 w) := by
 obtain ⟨s1, h1⟩ : ∃ x, rMust l ⟨#[123]⟩ s = x := ⟨_, rfl⟩
 obtain ⟨⟨pp, s5⟩, h5⟩ : ∃ x, partsF l nd 30 [] s1 = x := ⟨_, rfl⟩
 have hX : blockP l nd s = (pp, rMust l ⟨#[125]⟩ s5) := by
  unfold blockP
  simp only [h1, h5]
 rw [hX]
 have hi1 := (rMust_on T.fin ⟨#[123]⟩ (by decide) h.xn.rdr.inr)
 have hc1 := must_cnt (l := l) (s := s) (x := ⟨#[123]⟩)
 rw [h1] at hi1 hc1
 have H := Lib.hid (⟨h, h1, h5, hi1, hc1⟩ : _ ∧ _ ∧ _ ∧ _ ∧ _)
 clear h h1 h5 hX hi1 hc1
 go_enter Tryz.func37, Tryz.ntmps37
 go_wp2_with fail
 refine (ymust_any T H.out.1.xn.rdr ⟨#[123]⟩ (by decide)).mono ?_
 rw [H.out.2.1]
 rintro r w1 ⟨rfl, hr1, hs1⟩
 have H1 := Lib.hid ((YWay.refl (of := of) H.out.1).step hs1 hr1 H.out.2.2.2.1.1 H.out.2.2.2.2)
 clear hr1 hs1
 go_wp2_with fail
 go_loopg [] 31 (fun k wr => ∃ f ps s' B' n' b' qs', YWay l g A c b0 more nm pV B n b qs of w s' wr (numPs n ps).2 (numPs n ps).1 B' n' b' qs' ∧ f < k ∧ (s'.bad = 0 → 30 ≤ s'.nodes + f) ∧ partsF l nd f ps s' = (pp, s5) ∧ m ≤ s'.nodes)
 case atStart => exact ⟨30, [], s1, B, n, b, qs, by rw [numPs_nil]; exact H1.out, by omega, fun hb => by have := H1.out.st.cnt hb; omega, H.out.2.2.1, Int.le_trans hm H.out.2.2.2.1.2⟩
 case round =>
  obtain ⟨f, ps, s', B', n', b', qs', hW, hfk, hf30, hans, hmm⟩ := hrel
  obtain ⟨gk, rfl⟩ : ∃ k, gk = k + 1 := ⟨gk - 1, by omega⟩
  have HW := Lib.hid hW
  obtain ⟨⟨q0, q1, q2, q3, q4, q5⟩, _⟩ := blk6 hW.st.xn.rdr.rd
  have hgl := hW.st.xn.rdr.lt
  by_cases hb : s'.bad = 0
  ·have hb1 : (s'.bad == 0) = true := beq_iff_eq.2 hb
   have hcnt := hW.st.cnt hb
   have hfit := hW.st.fit
   have hlen := hW.len
   have h30 := hf30 hb
   obtain ⟨f, rfl⟩ : ∃ k, f = k + 1 := ⟨f - 1, by omega⟩
   have hts := takes_sign (l := l) (x := ⟨#[125]⟩) (s := s') (by decide) (by decide)
   obtain ⟨q, hq⟩ : ∃ q, rIsSign l ⟨#[125]⟩ s' = q := ⟨_, rfl⟩
   rw [partsF, hq] at hans
   rw [hq] at hts
   have HI := Lib.hid (yis_any T hW.st.xn.rdr ⟨#[125]⟩ (by decide))
   rw [hts] at HI
   clear hW hts hq
   cases q with
   | true =>
    rw [if_neg (fun hc => absurd hc.2 (by decide))] at hans
    have HF := Lib.hid hans
    clear hans hb hcnt
    go_wp2_with fail
    refine HI.out.mono ?_
    rintro e w2 ⟨rfl, hb2⟩
    have HW2 := Lib.hid (HW.out.below hb2)
    clear hb2
    go_wp2_with fail
    refine (ymust_any T HW2.out.st.xn.rdr ⟨#[125]⟩ (by decide)).mono ?_
    rintro e w3 ⟨rfl, hr3, hs3⟩
    have HW3 := Lib.hid (HW2.out.step hs3 hr3 (rMust_on T.fin ⟨#[125]⟩ (by decide) HW2.out.st.xn.rdr.inr).1 must_cnt)
    clear hr3 hs3
    go_wp2_with fail
    go_end0
    obtain ⟨rfl, rfl⟩ := Prod.mk.inj HF.out
    exact ⟨rfl, B', n', b', qs', HW3.out⟩
   | false =>
    rw [if_pos ⟨hb, rfl⟩] at hans
    have HF := Lib.hid (⟨hans, hb⟩ : _ ∧ _)
    clear hans hb
    go_wp2_with fail
    refine HI.out.mono ?_
    rintro e w2 ⟨rfl, hb2⟩
    have HW2 := Lib.hid (HW.out.below hb2)
    have hon2 := hon s' HW2.out.st.xn.rdr.inr HF.out.2 hmm
    clear hb2
    go_wp2_with fail
    refine (hn s' w2 B' n' b' qs' of more HW2.out.st HF.out.2 hmm (by omega)).mono ?_
    rintro e w3 ⟨rfl, B3, n3, b3, qs3, hY⟩
    have HW3 := Lib.hid (HW2.out.nextOne HF.out.2 hof hY)
    clear hY
    go_wp2_with fail
    go_roundg gk
    case measure => omega
    case rel => exact ⟨f, ps ++ [(nd s').1], (nd s').2, B3, n3, b3, qs3, HW3.out, by omega, fun hc => by have := hon2.2 hc; omega, HF.out.1, Int.le_trans hmm hon2.1.2⟩
  ·have hb1 := beqf hb
   have hfin : (ps, s') = (pp, s5) := by
    rw [← hans]
    cases f with
    | zero => rfl
    | succ f => rw [partsF, if_neg (fun hc => hb hc.1)]
   have HF := Lib.hid hfin
   clear hW hans hfin hb hf30
   go_wp2_with fail
   refine (ymust_any T HW.out.st.xn.rdr ⟨#[125]⟩ (by decide)).mono ?_
   rintro e w3 ⟨rfl, hr3, hs3⟩
   have HW3 := Lib.hid (HW.out.step hs3 hr3 (rMust_on T.fin ⟨#[125]⟩ (by decide) HW.out.st.xn.rdr.inr).1 must_cnt)
   clear hr3 hs3
   go_wp2_with fail
   go_end0
   obtain ⟨rfl, rfl⟩ := Prod.mk.inj HF.out
   exact ⟨rfl, B', n', b', qs', HW3.out⟩
end
end Go.Proofs.YtgcfjkfipkfijaaGreatDoor
namespace Go.Proofs.YtgcfjkfipkfijaaGreatDoor
open Go Go.RowKit Go.Lib
structure YW (l : List Tok) (g : Nat) (A : Option Addr) (c b0 more : Nat) (nm pV : Value) (B : Option Addr) (n b : Nat) (qs : List NQ) (w : World) (s' : RS) (w' : World) (X : List Nd) (B' : Option Addr) (n' b' : Nat) (qs' : List NQ) : Prop where
 st : YSt l g A c b0 more nm pV w' s' B' n' b' qs'
 was : qs.length = n
 len : n ≤ n'
 same : Same (g :: blks (.slice B n b) qs) w w'
 blk : ∀ k, k ∈ blks (.slice B' n' b') qs' → k ∈ blks (.slice B n b) qs ∨ w.heap.size ≤ k
 nds : s'.bad = 0 → qs'.map (·.nd) = X
section
variable {l : List Tok} {g c b0 more of n b n' b' : Nat} {A B B' : Option Addr} {s s' : RS} {w w' wr : World} {nm pV : Value} {qs qs' : List NQ} {X : List Nd} {m : Int} {nd : RS → Pc × RS}
theorem YW.refl (h : YSt l g A c b0 more nm pV w s B n b qs) : YW l g A c b0 more nm pV B n b qs w s w (qs.map (·.nd)) B n b qs := ⟨h, h.xn.nodes.len, Nat.le_refl _, Same.refl _ _, fun _ hk => .inl hk, fun _ => rfl⟩
theorem YW.step (h : YW l g A c b0 more nm pV B n b qs w s wr X B' n' b' qs') (hs : Same [g] wr w') (hr : XdP w' g A l.length c s' (nm, pV, .slice B' n' b')) (hi : InR l s') (hn : s'.bad = 0 → s.bad = 0 ∧ s'.nodes = s.nodes) : YW l g A c b0 more nm pV B n b qs w s' w' X B' n' b' qs' :=
 ⟨h.st.step hs hr hi hn, h.was, h.len, h.same.then_ (hs.mono (fun x hx => by simp at hx; subst hx; simp)), h.blk, fun hb => h.nds (hn hb).1⟩
theorem YW.below (h : YW l g A c b0 more nm pV B n b qs w s wr X B' n' b' qs') (hb : Below wr.heap.size wr w') : YW l g A c b0 more nm pV B n b qs w s w' X B' n' b' qs' :=
 h.step (Same.of_below hb) (h.st.xn.rdr.step hb).rd h.st.xn.rdr.inr (fun hb => ⟨hb, rfl⟩)
theorem YW.add {q0 : NQ} {B2 : Option Addr} {b2 : Nat} {qs2 : List NQ} (h : YW l g A c b0 (more + 1) nm pV B n b qs w s wr X B' n' b' qs') (h0 : q0.nd.kids = []) (hof : of < n') (hx : XN l g A c b0 w' s nm pV B2 (n' + 1) b2 qs2)
  (hm : qs2.map (·.nd) = ((qs' ++ [q0]).map (·.nd)).modify of (fun x => { x with kids := x.kids ++ [(n' : Int)] })) (hs : Same (g :: blks (.slice B' n' b') qs') wr w') (hb : ∀ k, k ∈ blks (.slice B2 (n' + 1) b2) qs2 → k ∈ blks (.slice B' n' b') qs' ∨ wr.heap.size ≤ k) :
  YW l g A c b0 more nm pV B n b qs w s w' ((X ++ [q0.nd]).modify of (kidsOn [(n' : Int)])) B2 (n' + 1) b2 qs2 := by
 have hz := h.same.size
 have hfit := h.st.fit
 refine ⟨⟨hx, by omega, fun q hq => ?_, fun hb => by have := h.st.cnt hb; omega⟩, h.was, by have := h.len; omega, h.same.trans hs (fun x hx => ?_), fun k hk => ?_, fun hb => ?_⟩
 ·have hin : q.nd ∈ qs2.map (·.nd) := List.mem_map_of_mem hq
  rw [hm] at hin
  obtain ⟨i, hi, he⟩ := List.getElem_of_mem hin
  rw [List.getElem_modify] at he
  have hli : i < (qs' ++ [q0]).length := by simpa using hi
  rw [List.getElem_map] at he
  have hk : ((qs' ++ [q0])[i]).nd.kids.length < n' := by
   rcases List.mem_append.1 (List.getElem_mem hli) with h1 | h1
   ·exact h.st.kids _ h1
   ·rw [List.mem_singleton.1 h1, h0]
    simp only [List.length_nil]
    omega
  rw [← he]
  split
  ·simp only [List.length_append, List.length_singleton]; omega
  ·omega
 ·rcases List.mem_cons.1 hx with rfl | hx
  ·exact .inl (by simp)
  ·exact (h.blk x hx).imp (fun h => List.mem_cons_of_mem _ h) id
 ·rcases hb k hk with h1 | h1
  ·exact h.blk k h1
  ·exact .inr (by omega)
 ·rw [hm, List.map_append, h.nds hb]
  rfl
theorem YW.body {s2 : RS} {ks : List Int} {ns : List Nd} {B2 : Option Addr} {n2 b2 : Nat} {qs2 : List NQ} (h : YW l g A c b0 more nm pV B n b qs w s wr X B' n' b' qs') (hbs : s2.bad = 0 → s.bad = 0) (h2 : YWay l g A c b0 more nm pV B' n' b' qs' of wr s2 w' ks ns B2 n2 b2 qs2) :
  YW l g A c b0 more nm pV B n b qs w s2 w' (X.modify of (kidsOn ks) ++ ns) B2 n2 b2 qs2 := by
 have hz := h.same.size
 refine ⟨h2.st, h.was, Nat.le_trans h.len h2.len, h.same.trans h2.same (fun x hx => ?_), fun k hk => ?_, fun hb => by rw [h2.nds hb, h.nds (hbs hb)]⟩
 ·rcases List.mem_cons.1 hx with rfl | hx
  ·exact .inl (by simp)
  ·exact (h.blk x hx).imp (fun h => List.mem_cons_of_mem _ h) id
 ·rcases h2.blk k hk with h1 | h1
  ·exact h.blk k h1
  ·exact .inr (by omega)
theorem YW.way {ks : List Int} {ns : List Nd} (h : YW l g A c b0 more nm pV B n b qs w s wr X B' n' b' qs') (hX : s.bad = 0 → X = (qs.map (·.nd)).modify of (kidsOn ks) ++ ns) : YWay l g A c b0 more nm pV B n b qs of w s wr ks ns B' n' b' qs' :=
 ⟨h.st, h.was, h.len, h.same, h.blk, fun hb => by rw [h.nds hb, hX hb]⟩
theorem block_bad (hs : (blockP l nd s).2.bad = 0) : s.bad = 0 := Decidable.byContradiction fun h => h (by rw [block_stop h] at hs; exact hs)
end
end Go.Proofs.YtgcfjkfipkfijaaGreatDoor
namespace Go.Proofs.YtgcfjkfipkfijaaGreatDoor
open Go Go.RowKit Go.Lib
section
variable {l : List Tok} {g c b0 more of n b : Nat} {A B : Option Addr} {s : RS} {w : World} {nm pV : Value} {qs : List NQ} {m : Int} {nd : RS → Pc × RS}
theorem YSt.begin (h : YSt l g A c b0 more nm pV w s B n b qs) (hb : s.bad = 0) (o : Nat) (ho : n + more + o ≤ 24) : YSt l g A c b0 (more + o) nm pV w ⟨s.at_, s.bad, s.nodes + o⟩ B n b qs ∧ rBegin o s = ⟨s.at_, s.bad, s.nodes + o⟩ := by
 have hc := h.cnt hb
 obtain ⟨h1, h2, h3, h4, h5⟩ := h.xn.rdr.inr
 refine ⟨⟨⟨⟨h.xn.rdr.rd, h.xn.rdr.row, h1, h2, ?_, ?_, fun _ => ?_⟩, h.xn.nodes, h.xn.gb, h.xn.lo⟩, by omega, h.kids, fun _ => ?_⟩, ?_⟩
 ·show 0 ≤ s.nodes + o; omega
 ·show s.nodes + o ≤ 27; omega
 ·show s.nodes + o ≤ 24; omega
 ·show s.nodes + (o : Int) = n + ((more + o : Nat) : Int); omega
 ·unfold rBegin; rw [if_neg (by omega)]
theorem takes_word {y : ByteArray} {k : Int} (hb : s.bad = 0) (hy : keyP (tokAt l s.at_) = y) : (rTakes l y ⟨s.at_, s.bad, k⟩).1 = true := by
 unfold rTakes rIsKey
 rw [hb, hy, show seq y y = true from seq_iff.2 rfl]
 rfl
def q0R (k : Int) : NQ := ⟨⟨k, [], [], ⟨#[]⟩, [], zEx⟩, none, 0, none, 0, none, 0, none, 0⟩
theorem q0R_rest (P : Nat → Prop) (w : World) (k : Int) : Rest P w (q0R k) := ⟨RowF.nil _ _ _ _ _, RowF.nil _ _ _ _ _, ⟨Nat.le_refl _, fun M _ => (RowF.nil exK P w none 0).2 M (by assumption)⟩⟩
theorem row_nodes (hq : qs.length = n) (hof : of < n) (k : Int) (ps : List Pc) : ((qs.map (·.nd) ++ [(q0R k).nd]).modify of (kidsOn [(n : Int)])).modify n (kidsOn (numPs ((n + 1 : Nat) : Int) ps).2) ++ (numPs ((n + 1 : Nat) : Int) ps).1 = (qs.map (·.nd)).modify of (kidsOn [(n : Int)]) ++ numP n (.row k [] ps) := by
 rw [modify_left (by rw [List.length_map]; omega)]
 have hl : ((qs.map (·.nd)).modify of (kidsOn [(n : Int)])).length = n := by rw [List.length_modify, List.length_map, hq]
 have h1 := modify_last ((qs.map (·.nd)).modify of (kidsOn [(n : Int)])) [] (q0R k).nd (kidsOn (numPs ((n + 1 : Nat) : Int) ps).2)
 rw [hl] at h1
 rw [h1, numP, List.append_assoc, show ((n + 1 : Nat) : Int) = (n : Int) + 1 by omega]
 rfl
set_option maxHeartbeats 8000000 in
set_option maxRecDepth 100000 in
theorem ynode_row (T : Toks l) (hn : NodeX l g A c b0 nm pV (m + 1) nd) (hon : NodeOn l (m + 1) nd) (h : YSt l g A c b0 more nm pV w s B n b qs) (hb : s.bad = 0) (hm : m ≤ s.nodes) (hof : of < n) (hfit : n + more + 1 ≤ 24) (y : ByteArray) (k : Int) (hyk : y = ⟨#[115, 101, 113]⟩ ∧ k = 0 ∨ y = ⟨#[112, 97, 114]⟩ ∧ k = 1) (hy : keyP (tokAt l s.at_) = y) :
  Calls Tryz.prog 63 #[.pointer (some ⟨g, 0, none⟩), .int .i64 of, .int .i64 more] w (YNd l g A c b0 more nm pV B n b qs of [(n : Int)] (numP n (.row k [] (blockP l nd (rTakes l y (rBegin 1 s)).2).1)) (blockP l nd (rTakes l y (rBegin 1 s)).2).2 w) := by
 obtain ⟨hB, hE⟩ := h.begin hb 1 hfit
 have hE1 : rBegin 1 s = ⟨s.at_, s.bad, s.nodes + 1⟩ := hE
 rw [hE1]
 have htk := takes_word (k := s.nodes + 1) hb hy
 have hmt := must_takes htk
 obtain ⟨s1, h1⟩ : ∃ x, (rTakes l y ⟨s.at_, s.bad, s.nodes + 1⟩).2 = x := ⟨_, rfl⟩
 rw [h1] at hmt ⊢
 have hnx : nextT l s = tokAt l s.at_ := if_pos hb
 have HNX := Lib.hid (ynext_any h.xn.rdr)
 have hts := nextT_text T s
 have HKY := Lib.hid (fun W => ykey_any (nextT l s) W hts)
 rw [hnx] at HNX
 simp only [hnx, hy] at HKY
 have H := Lib.hid (⟨h, hB, hmt⟩ : _ ∧ _ ∧ _)
 clear h hB hE hE1 htk hmt h1 hnx hts hy
 rcases hyk with ⟨rfl, rfl⟩ | ⟨rfl, rfl⟩
 ·go_enter Tryz.func63, Tryz.ntmps63
  go_wp2_with fail
  refine HNX.out.mono ?_
  rintro e w1 ⟨rfl, hb1⟩
  have HW1 := Lib.hid ((YW.refl H.out.2.1).below hb1)
  clear hb1
  go_wp2_with fail
  refine (HKY.out w1).mono ?_
  rintro e w2 ⟨rfl, hb2⟩
  have HW2 := Lib.hid (HW1.out.below hb2)
  obtain ⟨⟨q0, q1, q2, q3, q4, q5⟩, _⟩ := blk6 HW2.out.st.xn.rdr.rd
  have hgl := HW2.out.st.xn.rdr.lt
  clear hb2
  go_wp2_with fail
  refine (ymust_any T HW2.out.st.xn.rdr ⟨#[115, 101, 113]⟩ (by decide)).mono ?_
  have hmt := H.out.2.2
  have hon1 := rMust_on T.fin ⟨#[115, 101, 113]⟩ (by decide) HW2.out.st.xn.rdr.inr
  have hct := must_cnt (l := l) (s := ⟨s.at_, s.bad, s.nodes + ((1 : Nat) : Int)⟩) (x := ⟨#[115, 101, 113]⟩)
  rw [show (s.nodes + ((1 : Nat) : Int)) = s.nodes + 1 from rfl] at hon1 hct ⊢
  rw [hmt] at hon1 hct ⊢
  rintro e w3 ⟨rfl, hr3, hs3⟩
  have HW3 := Lib.hid (HW2.out.step hs3 hr3 hon1.1 hct)
  have hm1 : m + 1 ≤ s1.nodes := by have h1 := hon1.2; simp only at h1; omega
  clear hr3 hs3 hon1 hct hmt q0 q1 q2 q3 q4 q5 hgl
  have hAD := yadd_any HW3.out.st.xn of hof (by omega) (fun q hq => by have := HW3.out.st.kids q hq; omega) (q0R 0) rfl rfl (q0R_rest _ _ _)
  have HAD := Lib.hid hAD
  clear hAD
  go_wp2_with fail
  refine HAD.out.mono ?_
  rintro e w4 ⟨rfl, B4, b4, qs4, hx4, hm4, hs4, hk4⟩
  have HW4 := Lib.hid (HW3.out.add (q0 := q0R 0) rfl hof hx4 hm4 hs4 hk4)
  clear hx4 hm4 hs4 hk4
  have HBD := Lib.hid (ybody_any T hn hon HW4.out.st hm1 (Nat.lt_succ_self n))
  go_wp2_with fail
  refine HBD.out.mono ?_
  rintro e w5 ⟨rfl, B5, n5, b5, qs5, hY⟩
  have HW5 := Lib.hid (HW4.out.body block_bad hY)
  clear hY
  go_wp2_with fail
  go_end0
  exact ⟨rfl, B5, n5, b5, qs5, HW5.out.way (fun _ => row_nodes HW5.out.was hof 0 _)⟩
 ·go_enter Tryz.func63, Tryz.ntmps63
  go_wp2_with fail
  refine HNX.out.mono ?_
  rintro e w1 ⟨rfl, hb1⟩
  have HW1 := Lib.hid ((YW.refl H.out.2.1).below hb1)
  clear hb1
  go_wp2_with fail
  refine (HKY.out w1).mono ?_
  rintro e w2 ⟨rfl, hb2⟩
  have HW2 := Lib.hid (HW1.out.below hb2)
  obtain ⟨⟨q0, q1, q2, q3, q4, q5⟩, _⟩ := blk6 HW2.out.st.xn.rdr.rd
  have hgl := HW2.out.st.xn.rdr.lt
  clear hb2
  go_wp2_with fail
  refine (ymust_any T HW2.out.st.xn.rdr ⟨#[112, 97, 114]⟩ (by decide)).mono ?_
  have hmt := H.out.2.2
  have hon1 := rMust_on T.fin ⟨#[112, 97, 114]⟩ (by decide) HW2.out.st.xn.rdr.inr
  have hct := must_cnt (l := l) (s := ⟨s.at_, s.bad, s.nodes + ((1 : Nat) : Int)⟩) (x := ⟨#[112, 97, 114]⟩)
  rw [show (s.nodes + ((1 : Nat) : Int)) = s.nodes + 1 from rfl] at hon1 hct ⊢
  rw [hmt] at hon1 hct ⊢
  rintro e w3 ⟨rfl, hr3, hs3⟩
  have HW3 := Lib.hid (HW2.out.step hs3 hr3 hon1.1 hct)
  have hm1 : m + 1 ≤ s1.nodes := by have h1 := hon1.2; simp only at h1; omega
  clear hr3 hs3 hon1 hct hmt q0 q1 q2 q3 q4 q5 hgl
  have hAD := yadd_any HW3.out.st.xn of hof (by omega) (fun q hq => by have := HW3.out.st.kids q hq; omega) (q0R 1) rfl rfl (q0R_rest _ _ _)
  have HAD := Lib.hid hAD
  clear hAD
  go_wp2_with fail
  refine HAD.out.mono ?_
  rintro e w4 ⟨rfl, B4, b4, qs4, hx4, hm4, hs4, hk4⟩
  have HW4 := Lib.hid (HW3.out.add (q0 := q0R 1) rfl hof hx4 hm4 hs4 hk4)
  clear hx4 hm4 hs4 hk4
  have HBD := Lib.hid (ybody_any T hn hon HW4.out.st hm1 (Nat.lt_succ_self n))
  go_wp2_with fail
  refine HBD.out.mono ?_
  rintro e w5 ⟨rfl, B5, n5, b5, qs5, hY⟩
  have HW5 := Lib.hid (HW4.out.body block_bad hY)
  clear hY
  go_wp2_with fail
  go_end0
  exact ⟨rfl, B5, n5, b5, qs5, HW5.out.way (fun _ => row_nodes HW5.out.was hof 1 _)⟩
end
end Go.Proofs.YtgcfjkfipkfijaaGreatDoor
namespace Go.Proofs.YtgcfjkfipkfijaaGreatDoor
open Go Go.RowKit Go.Lib
theorem dec_four (l : List UInt8) : (decodeL l).2 ≤ 4 := by
 rw [decodeL_N]
 rcases decodeN_shape l.length (l.getD 0 0).toNat (l.getD 1 0).toNat (l.getD 2 0).toNat (l.getD 3 0).toNat with ⟨c, e⟩ | ⟨c1, c2, c3, cv, e⟩ | ⟨c1, c2, c3, c4, cv, cs, e⟩ | ⟨c1, c2, c3, c4, c5, cv, cw, e⟩ | e
 all_goals (rw [e]; dsimp only; omega)
def SgnS (t : Tok) : Prop := t.kind = 4 → t.text.size ≤ 4
theorem tokF_sgn (l : List UInt8) : SgnS (tokF l).1 := by
 have h4 := dec_four l
 unfold SgnS tokF
 simp only
 split
 ·split <;> intro h <;> exact absurd h (by simp [zTok])
 ·split
  ·split <;> intro h <;> exact absurd h (by simp [zTok])
  ·split
   ·unfold textF
    simp only
    split
    ·intro h; exact absurd h (by simp [zTok])
    ·split
     ·intro h; exact absurd h (by simp [zTok])
     ·split <;> intro h <;> exact absurd h (by simp [zTok])
   ·split
    ·intro _
     show (⟨(l.take _).toArray⟩ : ByteArray).size ≤ _
     rw [size_mk]
     refine Nat.le_trans (List.length_take_le _ _) ?_
     split <;> omega
    ·intro h; exact absurd h (by simp [zTok])
theorem cutG_sgn : ∀ (f : Nat) (l : List UInt8) (a : Int) (out : List Tok), (∀ t, t ∈ out → SgnS t) → ∀ t, t ∈ (cutG f l a out).1 → SgnS t
 | 0, _, _, _, _, t, ht => by simp [cutG] at ht
 | f + 1, l, a, out, ho, t, ht => by
  rw [cutG] at ht
  split at ht
  ·rcases List.mem_append.1 ht with ht | ht
   ·exact ho t ht
   ·simp at ht; subst ht; intro h; exact absurd h (by simp)
  ·simp only at ht
   generalize (if out.length = 2000 then (2 : Int) else (tokF l).2.2) = e at ht
   split at ht
   ·simp at ht
   ·refine cutG_sgn f _ _ _ ?_ t ht
    intro t ht
    rcases List.mem_append.1 ht with ht | ht
    ·exact ho t ht
    ·simp at ht; subst ht
     exact tokF_sgn l
theorem cutB_sgn (s : ByteArray) : ∀ t, t ∈ (cutB s).1 → SgnS t := by
 unfold cutB
 split
 ·intro t ht; simp at ht
 ·split
  ·intro t ht; simp at ht
  ·exact cutG_sgn _ _ _ _ (fun t ht => by simp at ht)
def SgnL (l : List Tok) : Prop := ∀ i, SgnS (tokAt l i)
theorem sgns_of (s : ByteArray) : SgnL (cutB s).1 := fun i => by
 unfold tokAt
 split
 ·intro h; exact absurd h (by decide)
 ·rw [List.getD_eq_getElem?_getD]
  cases hh : (cutB s).1[i.toNat]? with
  | none => intro h; exact absurd h (by decide)
  | some t => exact cutB_sgn s t (List.mem_of_getElem? hh)
section
variable {l : List Tok} {s : RS}
theorem takes_param (h : SgnL l) : (rTakes l wParam s).1 = rIsKey l wParam s := by
 have hs : rIsSign l wParam s = false := by
  refine Bool.eq_false_iff.2 (fun hc => ?_)
  unfold rIsSign at hc
  rw [Bool.and_eq_true, Bool.and_eq_true, beq_iff_eq, beq_iff_eq, seq_iff] at hc
  have := h s.at_ hc.2.1
  rw [hc.2.2] at this
  exact absurd this (by decide)
 unfold rTakes
 rw [hs, Bool.or_false]
 cases rIsKey l wParam s <;> rfl
theorem must_param (h : rIsKey l wParam s = true) : s.bad = 0 ∧ rMust l wParam s = rPass s := by
 have hb : s.bad = 0 := by unfold rIsKey at h; rw [Bool.and_eq_true, beq_iff_eq] at h; exact h.1
 refine ⟨hb, ?_⟩
 unfold rMust rTakes
 rw [h, Bool.true_or]
 rfl
theorem prmF_stop {f : Nat} {ps : List Prm} (h : rIsKey l wParam s = false) : prmF l f ps s = (ps, s) := by
 cases f with
 | zero => rfl
 | succ f => rw [prmF, if_neg (by rw [h]; decide)]
theorem key_bad {x : ByteArray} (h : s.bad ≠ 0) : rIsKey l x s = false := by unfold rIsKey; rw [beqf h, Bool.false_and]
theorem prmN_cnt (m : Bool) : NoCnt s (prmN l m s).2 := by
 unfold prmN
 simp only
 by_cases h : s.bad = 0 ∧ (tokAt l s.at_).kind ≠ 2
 ·rw [if_pos h]
  have hb := rFail_bad (e := 11) (by decide) s
  rw [if_neg hb]
  exact fun hc => absurd hc hb
 ·rw [if_neg h]
  by_cases hb : s.bad = 0
  ·rw [if_pos hb]
   exact fun _ => ⟨hb, rfl⟩
  ·rw [if_neg hb]
   exact .refl
theorem prmP_cnt (had : List ByteArray) : NoCnt s (prmP l had s).2 := ((((name_cnt _).trans (mustC _)).trans takes_cnt).trans (prmN_cnt _)).trans (takes_cnt.trans (mustC _))
theorem nodes_root (ks : List Pc) : ([q0R 0].map (·.nd)).modify 0 (kidsOn (numPs ((1 : Nat) : Int) ks).2) ++ (numPs ((1 : Nat) : Int) ks).1 = numP 0 (.row 0 [] ks) := by
 rw [numP, show (0 : Int) + 1 = ((1 : Nat) : Int) from rfl]
 rfl
end
end Go.Proofs.YtgcfjkfipkfijaaGreatDoor
namespace Go.Proofs.YtgcfjkfipkfijaaGreatDoor
open Go Go.RowKit Go.Lib
section
variable {l : List Tok} {g c b0 more of n b : Nat} {A B : Option Addr} {s : RS} {w : World} {nm pV : Value} {qs : List NQ} {m : Int} {nd : RS → Pc × RS}
theorem YSt.wrong {s' : RS} {w' : World} (h : YSt l g A c b0 more nm pV w s B n b qs) (hs : Same [g] w w') (hr : XdP w' g A l.length c s' (nm, pV, .slice B n b)) (hi : InR l s') (hb : s'.bad ≠ 0) (ks : List Int) (ns : List Nd) : YNd l g A c b0 more nm pV B n b qs of ks ns s' w (.returned (.tuple #[])) w' := by
 refine ⟨rfl, B, n, b, qs, h.step hs hr hi (fun hc => absurd hc hb), h.xn.nodes.len, Nat.le_refl _, hs.mono (fun x hx => by simp at hx; subst hx; simp), fun _ hk => .inl hk, fun hc => absurd hc hb⟩
set_option maxHeartbeats 8000000 in
set_option maxRecDepth 100000 in
theorem ynode_none (T : Toks l) (h : YSt l g A c b0 more nm pV w s B n b qs) (hb : s.bad = 0) (y : ByteArray) (hy : keyP (tokAt l s.at_) = y) (h1 : seq y wSeq = false) (h2 : seq y wPar = false) (h3 : seq y wUnit = false) (h4 : seq y wIf = false) (h5 : seq y wPhase = false) (ks : List Int) (ns : List Nd) :
  Calls Tryz.prog 63 #[.pointer (some ⟨g, 0, none⟩), .int .i64 of, .int .i64 more] w (YNd l g A c b0 more nm pV B n b qs of ks ns (rFail 11 s) w) := by
 have e1 : (y.toList == [115, 101, 113]) = false := by rw [Lib.toList_data]; exact h1
 have t1 : (y.toList != [115, 101, 113]) = true := by rw [bne, e1]; rfl
 have e2 : (y.toList == [112, 97, 114]) = false := by rw [Lib.toList_data]; exact h2
 have t2 : (y.toList != [112, 97, 114]) = true := by rw [bne, e2]; rfl
 have e3 : (y.toList == [117, 110, 105, 116]) = false := by rw [Lib.toList_data]; exact h3
 have t3 : (y.toList != [117, 110, 105, 116]) = true := by rw [bne, e3]; rfl
 have e4 : (y.toList == [105, 102]) = false := by rw [Lib.toList_data]; exact h4
 have t4 : (y.toList != [105, 102]) = true := by rw [bne, e4]; rfl
 have e5 : (y.toList == [112, 104, 97, 115, 101]) = false := by rw [Lib.toList_data]; exact h5
 have t5 : (y.toList != [112, 104, 97, 115, 101]) = true := by rw [bne, e5]; rfl
 have hnx : nextT l s = tokAt l s.at_ := if_pos hb
 have HNX := Lib.hid (ynext_any h.xn.rdr)
 have hts := nextT_text T s
 have HKY := Lib.hid (fun W => ykey_any (nextT l s) W hts)
 rw [hnx] at HNX
 simp only [hnx, hy] at HKY
 have H := Lib.hid h
 clear h hnx hts hy h1 h2 h3 h4 h5
 go_enter Tryz.func63, Tryz.ntmps63
 go_wp2_with fail
 refine HNX.out.mono ?_
 rintro e w1 ⟨rfl, hb1⟩
 have HB1 := Lib.hid hb1
 clear hb1
 go_wp2_with fail
 refine (HKY.out w1).mono ?_
 rintro e w2 ⟨rfl, hb2⟩
 have HB2 := Lib.hid (HB1.out.trans (hb2.mono HB1.out.size))
 clear hb2
 go_wp2_with fail
 refine (yfail_any (H.out.xn.rdr.step HB2.out) 11).mono ?_
 rintro e w3 ⟨rfl, hr3, hs3⟩
 have HB3 := Lib.hid (⟨hr3, (Same.of_below HB2.out).then_ hs3⟩ : _ ∧ _)
 clear hr3 hs3
 go_wp2_with fail
 go_end0
 exact H.out.wrong HB3.out.2 HB3.out.1 (rFail_on 11 (by decide) H.out.xn.rdr.inr).1 (rFail_bad (by decide) s) ks ns
end
end Go.Proofs.YtgcfjkfipkfijaaGreatDoor
namespace Go.Proofs.YtgcfjkfipkfijaaGreatDoor
open Go Go.RowKit Go.Lib
section
variable {l : List Tok} {g c b0 more of n b : Nat} {A B : Option Addr} {s : RS} {w : World} {nm pV : Value} {qs : List NQ} {m : Int} {nd : RS → Pc × RS}
set_option maxHeartbeats 8000000 in
set_option maxRecDepth 100000 in
theorem ynode_over (T : Toks l) (h : YSt l g A c b0 more nm pV w s B n b qs) (hb : s.bad = 0) (y : ByteArray) (hy : keyP (tokAt l s.at_) = y) (o : Nat) (hyo : (y = ⟨#[115, 101, 113]⟩ ∨ y = ⟨#[112, 97, 114]⟩ ∨ y = ⟨#[117, 110, 105, 116]⟩ ∨ y = ⟨#[112, 104, 97, 115, 101]⟩) ∧ o = 1 ∨ y = ⟨#[105, 102]⟩ ∧ o = 3) (hov : 24 < n + more + o) (ks : List Int) (ns : List Nd) :
  Calls Tryz.prog 63 #[.pointer (some ⟨g, 0, none⟩), .int .i64 of, .int .i64 more] w (YNd l g A c b0 more nm pV B n b qs of ks ns ⟨s.at_, 2, s.nodes + o⟩ w) := by
 have hc := h.cnt hb
 have hfit := h.fit
 have hin : InR l ⟨s.at_, 2, s.nodes + o⟩ := by
  obtain ⟨a1, a2, _⟩ := h.xn.rdr.inr
  refine ⟨a1, a2, ?_, ?_, fun hd => absurd hd (show ¬ (2 : Int) = 0 by decide)⟩
  ·show 0 ≤ s.nodes + (o : Int); omega
  ·show s.nodes + (o : Int) ≤ 27
   rcases hyo with ⟨_, rfl⟩ | ⟨_, rfl⟩ <;> omega
 have hfl : rFail 2 s = ⟨s.at_, 2, s.nodes⟩ := by unfold rFail; rw [if_pos hb]
 have hnx : nextT l s = tokAt l s.at_ := if_pos hb
 have HNX := Lib.hid (ynext_any h.xn.rdr)
 have hts := nextT_text T s
 have HKY := Lib.hid (fun W => ykey_any (nextT l s) W hts)
 rw [hnx] at HNX
 simp only [hnx, hy] at HKY
 have H := Lib.hid (⟨h, hin, hfl⟩ : _ ∧ _ ∧ _)
 clear h hnx hts hy hin hfl hc
 rcases hyo with ⟨rfl | rfl | rfl | rfl, rfl⟩ | ⟨rfl, rfl⟩
 all_goals
  go_enter Tryz.func63, Tryz.ntmps63
  go_wp2_with fail
  refine HNX.out.mono ?_
  rintro e w1 ⟨rfl, hb1⟩
  have HB1 := Lib.hid hb1
  clear hb1
  go_wp2_with fail
  refine (HKY.out w1).mono ?_
  rintro e w2 ⟨rfl, hb2⟩
  have HB2 := Lib.hid (HB1.out.trans (hb2.mono HB1.out.size))
  clear hb2
  obtain ⟨⟨q0, q1, q2, q3, q4, q5⟩, _⟩ := blk6 (H.out.1.xn.rdr.step HB2.out).rd
  have hgl := (H.out.1.xn.rdr.step HB2.out).lt
  go_wp2_with fail
  refine (yfail_any (H.out.1.xn.rdr.step HB2.out) 2).mono ?_
  rintro e w3 ⟨rfl, hr3, hs3⟩
  rw [H.out.2.2] at hr3
  have HB3 := Lib.hid (⟨hr3, (Same.of_below HB2.out).then_ hs3⟩ : _ ∧ _)
  clear hr3 hs3
  go_wp2_with fail
  go_end0
  refine H.out.1.wrong HB3.out.2 ?_ H.out.2.1 (show ¬ (2 : Int) = 0 by decide) ks ns
  exact HB3.out.1
end
end Go.Proofs.YtgcfjkfipkfijaaGreatDoor
namespace Go.Proofs.YtgcfjkfipkfijaaGreatDoor
open Go Go.RowKit Go.Lib
section
variable {l : List Tok} {g c b0 more of n b : Nat} {A B : Option Addr} {s : RS} {w : World} {nm pV : Value} {qs : List NQ}
set_option maxHeartbeats 8000000 in
set_option maxRecDepth 100000 in
theorem ynode_phase (T : Toks l) (hl : l.length ≤ 2001) (h : YSt l g A c b0 more nm pV w s B n b qs) (hb : s.bad = 0) (hof : of < n) (hfit : n + more + 1 ≤ 24) (y : ByteArray) (hyk : y = ⟨#[112, 104, 97, 115, 101]⟩) (hy : keyP (tokAt l s.at_) = y) :
  Calls Tryz.prog 63 #[.pointer (some ⟨g, 0, none⟩), .int .i64 of, .int .i64 more] w (YNd l g A c b0 more nm pV B n b qs of [(n : Int)] (numP n (stepP l (rTakes l y (rBegin 1 s)).2).1) (stepP l (rTakes l y (rBegin 1 s)).2).2 w) := by
 obtain ⟨hB, hE⟩ := h.begin hb 1 hfit
 have hE1 : rBegin 1 s = ⟨s.at_, s.bad, s.nodes + 1⟩ := hE
 rw [hE1]
 have htk := takes_word (k := s.nodes + 1) hb hy
 have hmt := must_takes htk
 obtain ⟨s1, h1⟩ : ∃ x, (rTakes l y ⟨s.at_, s.bad, s.nodes + 1⟩).2 = x := ⟨_, rfl⟩
 rw [h1] at hmt ⊢
 have hnx : nextT l s = tokAt l s.at_ := if_pos hb
 have HNX := Lib.hid (ynext_any h.xn.rdr)
 have hts := nextT_text T s
 have HKY := Lib.hid (fun W => ykey_any (nextT l s) W hts)
 rw [hnx] at HNX
 simp only [hnx, hy] at HKY
 have H := Lib.hid (⟨h, hB, hmt⟩ : _ ∧ _ ∧ _)
 clear h hB hE hE1 htk hmt h1 hnx hts hy
 subst hyk
 go_enter Tryz.func63, Tryz.ntmps63
 go_wp2_with fail
 refine HNX.out.mono ?_
 rintro e w1 ⟨rfl, hb1⟩
 have HW1 := Lib.hid ((YW.refl H.out.2.1).below hb1)
 clear hb1
 go_wp2_with fail
 refine (HKY.out w1).mono ?_
 rintro e w2 ⟨rfl, hb2⟩
 have HW2 := Lib.hid (HW1.out.below hb2)
 obtain ⟨⟨q0, q1, q2, q3, q4, q5⟩, _⟩ := blk6 HW2.out.st.xn.rdr.rd
 have hgl := HW2.out.st.xn.rdr.lt
 clear hb2
 go_wp2_with fail
 refine (ymust_any T HW2.out.st.xn.rdr ⟨#[112, 104, 97, 115, 101]⟩ (by decide)).mono ?_
 have hmt := H.out.2.2
 have hon1 := rMust_on T.fin ⟨#[112, 104, 97, 115, 101]⟩ (by decide) HW2.out.st.xn.rdr.inr
 have hct := must_cnt (l := l) (s := ⟨s.at_, s.bad, s.nodes + ((1 : Nat) : Int)⟩) (x := ⟨#[112, 104, 97, 115, 101]⟩)
 rw [show (s.nodes + ((1 : Nat) : Int)) = s.nodes + 1 from rfl] at hon1 hct ⊢
 rw [hmt] at hon1 hct ⊢
 rintro e w3 ⟨rfl, hr3, hs3⟩
 have HW3 := Lib.hid (HW2.out.step hs3 hr3 hon1.1 hct)
 clear hr3 hs3 hon1 hct hmt q0 q1 q2 q3 q4 q5 hgl
 obtain ⟨a, ha⟩ : ∃ x, rName l [] s1 = x := ⟨_, rfl⟩
 obtain ⟨⟨al, s5⟩, h5⟩ : ∃ x, argsP l a.2 = x := ⟨_, rfl⟩
 have hst : stepP l s1 = (.step a.1 al, s5) := by
  have e : stepP l s1 = (.step (rName l [] s1).1 (argsP l (rName l [] s1).2).1, (argsP l (rName l [] s1).2).2) := rfl
  rw [e, ha, h5]
 have HST := Lib.hid hst
 have HS := Lib.hid (⟨ha, h5⟩ : _ ∧ _)
 clear ha h5 hst
 have hnm := yname_any T HW3.out.st.xn.rdr (a := none) (cc := 0) (had := []) (StrR.nil _ _) 1 (by decide)
 rw [show rMost l (([] : List ByteArray).length : Nat) 1 s1 = s1 from if_neg (fun hc => absurd hc.1 (by decide)), HS.out.1] at hnm
 have HNM := Lib.hid hnm
 clear hnm
 go_wp2_with fail
 refine HNM.out.mono ?_
 rintro e w4 ⟨rfl, hr4, hs4⟩
 have HW4 := Lib.hid (HW3.out.step hs4 hr4 (by have := (rName_on T.fin [] HW3.out.st.xn.rdr.inr).1; rwa [HS.out.1] at this) (by have := name_cnt (l := l) (s := s1) []; rwa [HS.out.1] at this))
 clear hr4 hs4
 have hag := yargs_any T hl HW4.out.st.xn.rdr
 have hon5 : InR l (argsP l a.2).2 := by
  have h1 := rMust_on T.fin ⟨#[40]⟩ (by decide) HW4.out.st.xn.rdr.inr
  have h3 := argF_on T.fin T.take 8 ((rMust l ⟨#[40]⟩ a.2).bad == 0 && !rIsSign l ⟨#[41]⟩ (rMust l ⟨#[40]⟩ a.2)) [] _ h1.1
  have h4 := rMust_on T.fin ⟨#[41]⟩ (by decide) h3.1
  exact (rMust_on T.fin ⟨#[59]⟩ (by decide) h4.1).1
 have hct5 := args_cnt (l := l) (s := a.2)
 rw [HS.out.2] at hag hon5 hct5
 have HAG := Lib.hid (⟨hag, hon5, hct5⟩ : _ ∧ _ ∧ _)
 clear hag hon5 hct5
 go_wp2_with fail
 refine HAG.out.1.mono ?_
 rintro e w5 ⟨C, cc, rfl, hrow, hr5, hs5⟩
 simp only at hrow hr5
 have HW5 := Lib.hid (HW4.out.step hs5 hr5 HAG.out.2.1 HAG.out.2.2)
 have hrs : Rest (fun k => k < b0 ∨ k ∈ blks (.slice B n b) qs) w5 ⟨⟨3, [], [], a.1, al, zEx⟩, none, 0, none, 0, C, cc, none, 0⟩ := ⟨(q0R_rest _ _ 0).us, hrow.more (fun k hk => .inl (by
  have h0 := HW4.out.st.xn.lo
  rcases hk with hk | hk
  ·omega
  ·exact (HW4.out.st.xn.nodes.lt k hk).2)), (q0R_rest _ _ 0).ex⟩
 have HAD := Lib.hid (yadd_any HW5.out.st.xn of hof (by omega) (fun q hq => by have := HW5.out.st.kids q hq; omega) ⟨⟨3, [], [], a.1, al, zEx⟩, none, 0, none, 0, C, cc, none, 0⟩ rfl rfl hrs)
 clear hrow hr5 hs5 hrs
 go_wp2_with fail
 refine HAD.out.mono ?_
 rintro e w6 ⟨rfl, B6, b6, qs6, hx6, hm6, hs6, hk6⟩
 have HW6 := Lib.hid (HW5.out.add (q0 := ⟨⟨3, [], [], a.1, al, zEx⟩, none, 0, none, 0, C, cc, none, 0⟩) rfl hof hx6 hm6 hs6 hk6)
 clear hx6 hm6 hs6 hk6
 go_wp2_with fail
 go_end0
 have hnp : numP (n : Int) (.step a.1 al) = [⟨3, [], [], a.1, al, zEx⟩] := by rw [numP]
 rw [HST.out]
 rw [hnp]
 exact ⟨rfl, B6, n + 1, b6, qs6, HW6.out.way (fun _ => by rw [modify_left (by rw [List.length_map, HW6.out.was]; exact hof)])⟩
end
end Go.Proofs.YtgcfjkfipkfijaaGreatDoor
