/- Part 17 of the proof of ragain_card; no conditions. -/
import Derived.Test.YtgcfjkfipkfijaaGreatDoorAg01
import Derived.Test.YtgcfjkfipkfijaaGreatDoorAg16
import Derived.Test.YtgcfjkfipkfijaaGreatDoorAg02
import Derived.Test.YtgcfjkfipkfijaaGreatDoorAg11
import Derived.Deep.DrawnRows
import Derived.ChangeAlike
import Derived.RegionTactic
import Derived.Deep.DeepCutAuto
import Derived.Deep.CutBlock
set_option maxRecDepth 100000
set_option maxHeartbeats 8000000
namespace Go.Proofs.YtgcfjkfipkfijaaGreatDoor
open Go Go.RowKit Go.Lib Tryz
attribute [local go_sem ↓] Go.wp_at_zero Go.wp_at_succ
theorem nU {f l a out} (hl : l ≠ []) (ho : out.length ≠ 2000) (he : (bC l).2.2 = 0) :
  dS (f + 1) l a out = dS f (skip (l.drop (bC l).2.1.toNat) (a + (ai (l.take (bC l).2.1.toNat)).length)).1 (skip (l.drop (bC l).2.1.toNat) (a + (ai (l.take (bC l).2.1.toNat)).length)).2 (out ++ [{ (bC l).1 with at_ := a }]) := by
 simp only [dS, K_ hl, K_ ho, he, ne_eq, not_true_eq_false, if_false]
theorem qp {f l a out} (hl : l ≠ []) (ho : out.length ≠ 2000) (he : (bC l).2.2 ≠ 0) : dS (f + 1) l a out = ([], (bC l).2.2, a) := by
 simp only [dS, K_ hl, K_ ho]; rw [M_ he]
theorem nV {f l a out} (hl : l ≠ []) (ho : out.length = 2000) : dS (f + 1) l a out = ([], 2, a) := by
 simp only [dS, K_ hl, M_ ho]; rw [M_ (by decide)]
theorem qq {f a out} : dS (f + 1) [] a out = (out ++ [⟨0, ⟨#[]⟩, 0, a⟩], 0, 0) := by
 simp only [dS, if_true]
theorem xp : (Tryz.prog.info? 60).map (fun i => (i.zero, i.size, i.bytes)) = some (some (.agg #[.int .i64 0, .string ⟨#[]⟩, .int .i64 0, .int .i64 0]), 4, 40) := by kernel_rfl
def gI (s : ByteArray) (w : World) (e : Ending) (w' : World) : Prop :=
 ∃ A c, e = .returned (.tuple #[.slice A (cd s).1.length c, .int .i64 (cd s).2.1, .int .i64 (cd s).2.2]) ∧ (cd s).1.length ≤ c ∧ (∀ M : List Nat, (∀ k, k ∈ M → k < w.heap.size) → db.Row M w' A (cd s).1) ∧ Below w.heap.size w w'
theorem fB {s w w' er at_} (h : cd s = ([], er, at_)) (hb : Below w.heap.size w w') : gI s w (.returned (.tuple #[.slice none 0 0, .int .i64 er, .int .i64 at_])) w' := by
 unfold gI
 rw [h]
 exact ⟨none, 0, rfl, H_ _, fun M _ => ax.Row.nil _ _ _ _, hb⟩
theorem r_ {s w w' out v base} (h : cd s = (out, 0, 0)) (ho : w'.ownsRow base 60 4 v out.length (out.flatMap po)) (hbase : w.heap.size ≤ base) (hb : Below w.heap.size w w') :
  gI s w (.returned (.tuple #[v, .int .i64 0, .int .i64 0])) w' := by
 unfold gI
 rw [h]
 obtain ⟨A, c, rfl, hc, hr⟩ := gw (d := db) pw ho (M := []) (fun k hk => by simp at hk) (fun x _ => pr _ _ x)
 refine ⟨A, c, rfl, hc, fun M hM => ?_, hb⟩
 obtain ⟨A', c', he, _, hr'⟩ := gw (d := db) pw ho (M := M) (fun k hk => Y_ (hM k hk) hbase) (fun x _ => pr _ _ x)
 injection he with he1 _ _
 rw [he1]
 exact hr'
theorem tG (s w) (hT : bq w) (hs : s.size ≤ 9223372036854775806) : Calls prog 23 #[.string s] w (gI s w) := by
 by_cases h1 : 8192 < s.size
 ·have hz : (8192 : Int) < s.size := by omega
  have HX : Hid (cd s = ([], 2, 0)) := by unfold cd; rw [M_ h1]; exact rfl
  clear h1
  go_enter func23, ntmps23
  go_wp2_with fail
  refine L_ (results_tmp3 rfl _ _ _) rfl ?_
  exact fB HX.out (J_ _ _)
 have hz : (s.size : Int) ≤ 8192 := by omega
 have HBAD := hid (yD s w hs hT)
 by_cases h2 : 0 ≤ iS 0 (ai s.data.toList)
 ·have HX : Hid (cd s = ([], 10, iS 0 (ai s.data.toList))) := by unfold cd; rw [K_ h1, M_ h2]; exact rfl
  clear h1 hT
  go_enter func23, ntmps23
  go_wp2_with fail
  refine HBAD.out.mono ?_
  rintro e w1 ⟨rfl, hb1⟩
  go_wp2_with fail
  refine L_ (results_tmp3 rfl _ _ _) rfl ?_
  exact fB HX.out hb1
 have h2' : iS 0 (ai s.data.toList) < 0 := by omega
 obtain ⟨ANS, hANS⟩ := nm_ (cd s)
 have HX : Hid (dS (s.size + 1) (skip s.data.toList 0).1 (skip s.data.toList 0).2 [] = ANS) := by rw [← hANS]; unfold cd; rw [K_ h1, K_ h2]; exact rfl
 have HANS := hid hANS
 have HT := hid hT
 clear h1 h2 hANS hT
 go_enter func23, ntmps23
 go_wp2_with fail
 refine HBAD.out.mono ?_
 rintro e w1 ⟨rfl, hb1⟩
 clear HBAD
 have hT1 := hid (HT.out.below hb1)
 have HB1 := hid hb1
 clear hb1 HT
 go_wp2_with fail
 obtain ⟨G, hG⟩ := nm_ w1.heap.size
 obtain ⟨w2, hw2⟩ := nm_ (w1.alloc (.cells #[.string s, .int .i64 0, .slice none 0 0] 84))
 have hk2 : ft w2 G s 0 (.slice none 0 0) := by rw [← hw2, ← hG]; exact I_ _ _
 have hb2 : Below w1.heap.size w1 w2 := by rw [← hw2]; exact (J_ _ _).alloc le_ _
 rw [hw2, hG]
 have HG := hid hG
 have hsz2 : G < w2.heap.size := ab hk2
 have HS2 : Hid (Same [G] w1 w2) := Same.of_below hb2
 have HFIN : Hid (∀ W, Same [G] w1 W → Below w.heap.size w W) := fun W h => HB1.out.trans ((h.below_of (fun k hk => by simp at hk; omega)).mono HB1.out.size)
 clear hw2 hG hb2
 refine (mq G s 0 _ w2 hk2 (by omega) (by omega) (by omega) _ rfl).mono ?_
 rintro e w3 ⟨rfl, r, a, hk3, hs3, hr3, ha3, hl1, hl2, hl3⟩
 go_wp2_with fail
 have hr0 : dS (s.size + 1) r.data.toList a [] = ANS := by
  have h := HX.out
  unfold skip at h
  rw [ak, ← hr3, ← ha3] at h
  exact h
 go_loopg [7, 8, 9] (s.size + 1) (fun k _ _ _ w' => ∃ (r : ByteArray) (a : Int) (A : Option Addr) (c : Nat) (out : List aZ), ft w' G r a (.slice A out.length c) ∧
  w'.ownsRow (G + 1) 60 4 (.slice A out.length c) out.length (out.flatMap po) ∧ Same [G] w1 w' ∧ r.size < k ∧ out.length ≤ 2000 ∧ 0 ≤ a ∧ a + r.size ≤ s.size ∧ dS k r.data.toList a out = ANS)
 case atStart => exact ⟨r, a, none, 0, [], hk3, ⟨rfl, .inl ⟨rfl, rfl⟩⟩, HS2.out.trans hs3 (fun x hx => .inl hx), by omega, by simp, by omega, by omega, hr0⟩
 case round =>
  clear hk2 hk3 hs3 hr3 ha3 hl1 hl2 hl3 hr0 hsz2
  obtain ⟨r, a, A, c, out, hk, hown, hS, hrk, hol, ha0, har, hans⟩ := hrel
  obtain ⟨gk, rfl⟩ := pk_ gk 1 (by omega)
  have HK := hid hk
  have HOWN := hid hown
  have HS := hid hS
  have HA := hid hans
  have hg := ab hk
  have hc0 : wr.cell? ⟨G, 0, none⟩ = some (.string r) := (aa hk 0).trans rfl
  have HGT : Hid (mU ≤ G) := by have := hT1.out.size; rw [HG.out] at this; exact this
  have HTr : Hid (bq wr) := hT1.out.keep hS (fun k hk => by simp at hk; subst hk; exact HGT.out)
  clear hk hown hS hans
  by_cases hp : 0 < r.size
  ·have hne := kY hp
   have hl : r.data.toList ≠ [] := by intro e; have := ak r; rw [e] at this; simp at this; omega
   have HL := hid hl
   clear hl
   go_wp2_with fail
   refine (uX G r a _ wr HK.out (by omega) hp HTr.out).mono ?_
   rintro e w4 ⟨⟨⟨⟨t1, t2, t3, t4⟩, tn, te⟩, htok, rfl⟩, hb4⟩
   have HTOK := hid htok
   have HK4 : Hid (ft w4 G r a (.slice A out.length c)) := (hb4.block _ hg).trans HK.out
   have HO4 := hid (eU HOWN.out hb4)
   have HS4 := hid (HS.out.below_ hb4)
   have hg4 := ab HK4.out
   have d0 : w4.cell? ⟨G, 0, none⟩ = some (.string r) := (aa HK4.out 0).trans rfl
   have d1 : w4.cell? ⟨G, 1, none⟩ = some (.int .i64 a) := (aa HK4.out 1).trans rfl
   have d2 : w4.cell? ⟨G, 2, none⟩ = some (.slice A out.length c) := (aa HK4.out 2).trans rfl
   clear hb4 hc0 htok
   by_cases ho : out.length = 2000
   ·have HO := hid ho
    have hob : ((out.length : Int) == 2000) = true := by rw [beq_iff_eq]; omega
    clear ho
    go_wp2_with fail
    go_quiet (fail)
    go_wp2_with fail
    refine L_ (results_tmp3 rfl _ _ _) rfl ?_
    refine fB (by have h := HA.out; rw [nV HL.out HO.out] at h; rw [HANS.out, ← h]) ?_
    exact HFIN.out _ ((HS4.out.alloc _).drewN _)
   ·have hob : ((out.length : Int) == 2000) = false := by rw [beq_eq_false_iff_ne]; omega
    have HO := hid ho
    clear ho
    by_cases he : te = 0
    ·subst he
     have htb := ow HL.out (by rw [← HTOK.out])
     rw [← HTOK.out, ak] at htb
     obtain ⟨htb1, htb2⟩ := htb
     simp only at htb1 htb2
     go_wp2_with fail
     obtain ⟨w5, hw5⟩ := nm_ (w4.alloc (.cells #[.int .i64 t1, .string t2, .int .i64 t3, .int .i64 a] 60))
     obtain ⟨TB, hTB⟩ := nm_ w4.heap.size
     have hk5 : w5.heap[TB]? = some (.cells #[.int .i64 t1, .string t2, .int .i64 t3, .int .i64 a] 60 (0, 0)) := by rw [← hw5, ← hTB]; exact I_ _ _
     have hb5 : Below w4.heap.size w4 w5 := by rw [← hw5]; exact (J_ _ _).alloc le_ _
     have HK5 : Hid (ft w5 G r a (.slice A out.length c)) := (hb5.block _ hg4).trans HK4.out
     have HO5 := hid (eU HO4.out hb5)
     have HS5 := hid (HS4.out.below_ hb5)
     rw [hw5, hTB]
     rw [hTB] at hg4
     have e2 : w5.cell? ⟨G, 2, none⟩ = some (.slice A out.length c) := (aa HK5.out 2).trans rfl
     have f2 := af HK5.out 2
     have q0 := (aa hk5 0).trans rfl
     have q1 := (aa hk5 1).trans rfl
     have q2 := (aa hk5 2).trans rfl
     have q3 := (aa hk5 3).trans rfl
     have hlt5 := ab hk5
     have hg5 := ab HK5.out
     clear hw5 hTB hk5 hb5 d0 d1 d2
     go_cut [] (fun wx => ∃ (g cap : Nat), ft wx G r a (.slice (some ⟨g, 0, none⟩) (out.length + 1) cap) ∧
      wx.ownsRow (G + 1) 60 4 (.slice (some ⟨g, 0, none⟩) (out.length + 1) cap) (out.length + 1) (out.flatMap po ++ [.int .i64 t1, .string t2, .int .i64 t3, .int .i64 a]) ∧ Same [G] w1 wx)
     case first =>
      obtain ⟨i0, hi0, hz0, hz1, hz2⟩ := info_parts xp
      have hne : some G ≠ (Value.slice A out.length c).ownBlock := fun e => by have := aG HO5.out G e.symm; omega
      have hgl : ∀ o, G < ((w5.alloc o).drew).heap.size := fun o => Y_ hg5 ((J_ w5.heap.size w5).alloc le_ o).size
      have he2 : ∀ o, ((w5.alloc o).drew).cell? ⟨G, 2, none⟩ = some (.slice A out.length c) := fun o => (((J_ w5.heap.size w5).alloc le_ o).cell (p := ⟨G, 2, none⟩) hg5).trans e2
      have hf2 : ∀ o, ((w5.alloc o).drew).frozen? ⟨G, 2, none⟩ = false := fun o => (((J_ w5.heap.size w5).alloc le_ o).frozen (p := ⟨G, 2, none⟩) hg5).trans f2
      go_region_law
       ((refine step_append_lies _ (by rfl) _ _ _ (by rfl) (G + 1) 60 i0 _ 4 40 underlying46 hi0 hz0 hz1 hz2 rfl (by omega) (.slice A out.length c) out.length (out.flatMap po) (by rfl) ((HO5.out.alloc _).drew)
           ⟨w5.heap.size, 0, none⟩ 1 1 [.int .i64 t1, .string t2, .int .i64 t3, .int .i64 a] (by rfl) (by rfl) (World.news_of_block (cs := #[.int .i64 t1, .string t2, .int .i64 t3, .int .i64 a]) (t := 60) (fr := (0, 0)) (I_ w5 _)) (by simp [Value.oneCell'])
           (by omega) (by unfold maxLen; omega) (by omega) (by simp; omega) (w5.heap.size + 1) (by simp) ?_; intro g cap w6 hown6 hgrow hat hlt; have z6 := (hgrow.cell_far ⟨G, 2, none⟩ (hgl _) hne).trans (he2 _); have y6 := (hgrow.frozen_far ⟨G, 2, none⟩ (hgl _) hne).trans (hf2 _)))
      all_goals
       go_wp2_with fail
       go_meet
       have k6 := (hgrow.block G (hgl _) hne).trans ((((J_ w5.heap.size w5).alloc le_ _).block G hg5).trans HK5.out)
       have hgg := (aG hown6 g rfl).1
       exact ⟨g, cap, bh k6 2 _, ew hown6 (p := ⟨G, 2, none⟩) (by simp [Value.ownBlock]; omega) _,
        ((((HS5.out.alloc _).drew).grown hgrow (fun k hk => by have := (aG HO5.out k hk).1; have := HG.out; exact .inr (by omega))).setCell (.inl (by simp)) _)⟩
     case rest =>
      obtain ⟨g, cap, hk6, hown6, hs6⟩ := hcut
      clear e2 f2 q0 q1 q2 q3 hlt5 hg5
      go_wp2_with fail
      refine (jz G r a _ tn _ hk6 (by omega) (by omega) (by omega) ha0 (by omega)).mono ?_
      rintro e w7 ⟨rfl, hk7, hs7⟩
      have HO7 := hid (pk hown6 hs7 (fun k hk => by simp at hk; omega))
      have HS7 := hid (hs6.then_ hs7)
      clear hk6 hown6 hs6 hs7
      go_wp2_with fail
      have hle := iA (r.data.toList.take tn.toNat)
      rw [k_, ak] at hle
      have hsz7 : (r.extract tn.toNat r.size).size = r.size - tn.toNat := Lib.ext_size _ _
      refine (mq G _ _ _ _ hk7 (by omega) (by omega) (by omega) _ rfl).mono ?_
      rintro e w8 ⟨rfl, r8, a8, hk8, hs8, hr8, ha8, hm1, hm2, hm3⟩
      go_wp2_with fail
      go_roundg gk
      case measure => omega
      case rel =>
       have h := HA.out
       rw [nU HL.out HO.out (by rw [← HTOK.out]), ← HTOK.out] at h
       unfold skip at h
       rw [← fN, ak, ← hr8, ← ha8] at h
       have h20 := HO.out
       have hlen : (out ++ [(⟨t1, t2, t3, a⟩ : aZ)]).length = out.length + 1 := by simp
       refine ⟨r8, a8, some ⟨g, 0, none⟩, cap, out ++ [⟨t1, t2, t3, a⟩], by rw [hlen]; exact hk8, ?_, HS7.out.then_ hs8, by omega, by rw [hlen]; omega, by omega, by omega, h⟩
       rw [hlen, p_]
       exact pk HO7.out hs8 (fun k hk => by simp at hk; omega)
    ·have heb : (te != 0) = true := by rw [bne_iff_ne]; exact he
     have HE := hid he
     clear he
     go_wp2_with fail
     go_quiet (fail)
     go_wp2_with fail
     refine L_ (results_tmp3 rfl _ _ _) rfl ?_
     refine fB (by have h := HA.out; rw [qp HL.out HO.out (by rw [← HTOK.out]; exact HE.out), ← HTOK.out] at h; rw [HANS.out, ← h]) ?_
     exact HFIN.out _ ((HS4.out.alloc _).drewN _)
  ·have hne := kZ hp
   have hnil : r.data.toList = [] := X_ (by rw [ak]; omega)
   have h := HA.out
   rw [hnil, qq] at h
   have HE := hid h
   clear h hnil
   have d1 : wr.cell? ⟨G, 1, none⟩ = some (.int .i64 a) := (aa HK.out 1).trans rfl
   have d2 : wr.cell? ⟨G, 2, none⟩ = some (.slice A out.length c) := (aa HK.out 2).trans rfl
   go_wp2_with fail
   obtain ⟨i0, hi0, hz0, hz1, hz2⟩ := info_parts xp
   go_region_law
    ((refine step_append_lies _ (by rfl) _ _ _ (by rfl) (G + 1) 60 i0 _ 4 40 underlying46 hi0 hz0 hz1 hz2 rfl (by omega) (.slice A out.length c) out.length (out.flatMap po) (by rfl) ((HOWN.out.alloc _).drew)
        ⟨wr.heap.size, 0, none⟩ 1 1 [.int .i64 0, .string ⟨#[]⟩, .int .i64 0, .int .i64 a] (by rfl) (by rfl) (World.news_of_block (cs := #[.int .i64 0, .string ⟨#[]⟩, .int .i64 0, .int .i64 a]) (t := 60) (fr := (0, 0)) (I_ wr _)) (by simp [Value.oneCell'])
        (by omega) (by unfold maxLen; omega) (by omega) (by simp; omega) (wr.heap.size + 1) (by simp) ?_; intro g cap w6 hown6 hgrow hat hlt))
   all_goals
    go_wp2_with fail
    refine L_ (results_tmp3 rfl _ _ _) rfl ?_
    have hS6 := (((HS.out.alloc _).drew).grown hgrow (fun k hk => by have := (aG HOWN.out k hk).1; have := HG.out; exact .inr (by omega)))
    have ho6 : w6.ownsRow (G + 1) 60 4 (.slice (some ⟨g, 0, none⟩) (out.length + 1) cap) (out ++ [(⟨0, ⟨#[]⟩, 0, a⟩ : aZ)]).length ((out ++ [(⟨0, ⟨#[]⟩, 0, a⟩ : aZ)]).flatMap po) := by
     rw [p_, O_]
     exact hown6
    exact r_ (HANS.out.trans HE.out.symm) ho6 (by have := HB1.out.size; have := HG.out; omega) (HFIN.out _ hS6)
def iM (p : lp × Int × Int) (w : World) (r : Ending) (w' : World) : Prop :=
 ∃ pA pc nA nc, r = .returned (.tuple #[.agg #[.string p.1.name, .slice pA p.1.params.length pc, .slice nA p.1.nodes.length nc], .int .i64 p.2.1, .int .i64 p.2.2]) ∧ aw iV (fun k => k < w.heap.size) w' pA pc p.1.params ∧ aw nM (fun k => k < w.heap.size) w' nA nc p.1.nodes ∧ Below w.heap.size w w'
theorem nW (w k a b c) : Same [k] w (((w.setCell ⟨k, 0, none⟩ a).setCell ⟨k, 1, none⟩ b).setCell ⟨k, 2, none⟩ c) :=
 (((Same.refl [k] w).setCell (.inl (by simp)) _).setCell (.inl (by simp)) _).setCell (.inl (by simp)) _
theorem tH {w W K e a pA nA pc nc} (hK : w.heap.size = K) (hb : Below w.heap.size w W) (x y z) (h1 : pA = none) (h2 : nA = none) (h3 : pc = 0) (h4 : nc = 0) :
  iM (ko, e, a) w (.returned (.tuple #[.agg #[.string ⟨#[]⟩, .slice pA 0 pc, .slice nA 0 nc], .int .i64 e, .int .i64 a])) (((W.setCell ⟨K, 0, none⟩ x).setCell ⟨K, 1, none⟩ y).setCell ⟨K, 2, none⟩ z) := by
 subst h1 h2 h3 h4
 exact ⟨none, 0, none, 0, rfl, aw.nil _ _ _ _ _, aw.nil _ _ _ _ _, ((Same.of_below (M := [K]) hb).trans (nW W K x y z) (fun x hx => .inl hx)).below_of (fun k hk => by simp at hk; omega)⟩
theorem r' (s w) (hT : bq w) (hs : s.size ≤ 9223372036854775806) (h0 : (cd s).2.1 ≠ 0) : Calls prog 9 #[.string s] w (iM (ko, (cd s).2.1, (cd s).2.2) w) := by
 obtain ⟨w1, hw1, hb1, hz1⟩ := alo_ w (.cells #[.string ⟨#[]⟩, .slice none 0 0, .slice none 0 0] 26 (0, 0))
 have HCUT := hid (tG s w1 (hT.below hb1) hs)
 obtain ⟨K, hK⟩ := nm_ w.heap.size
 obtain ⟨⟨tk, ce, ca⟩, hc⟩ : ∃ c, cd s = c := ⟨_, rfl⟩
 rw [hc] at h0 ⊢
 have HC := hid hc
 have HK := hid hK
 rw [hK] at hz1
 have H1 := hj_ hb1 hz1
 have HW1 := hid hw1
 have hk1 : K < w1.heap.size := ab hz1
 have h0b : (ce != 0) = true := B_ h0
 clear hb1 hz1 hw1 hK hc hT h0
 go_enter func9, ntmps9
 go_wp2_with (rw [HW1.out, HK.out]; refine HCUT.out.mono ?_; unfold gI; rw [HC.out]; rintro r w2 ⟨A, c, rfl, hlc, hrow, hb2⟩; obtain ⟨⟨z0, z1, z2⟩, f0, f1, f2⟩ := bx ((hb2.block _ hk1).trans H1.out.2); have H2 := hid hb2; clear hlc hrow hb2)
 refine L_ (v := .tuple #[.agg #[.string ⟨#[]⟩, .slice none 0 0, .slice none 0 0], .int .i64 ce, .int .i64 ca]) (by simp [results, results9, go_sem, *]) rfl ?_
 exact tH HK.out (H1.out.1.trans (H2.out.mono H1.out.1.size)) _ _ _ rfl rfl rfl rfl
theorem qt (s w) (hT : bq w) (hs : s.size ≤ 9223372036854775806) (h0 : (cd s).2.1 = 0) : Calls prog 9 #[.string s] w (iM (cB s) w) := by
 obtain ⟨w1, hw1, hb1, hz1⟩ := alo_ w (.cells #[.string ⟨#[]⟩, .slice none 0 0, .slice none 0 0] 26 (0, 0))
 have HCUT := hid (tG s w1 (hT.below hb1) hs)
 have T0 := oQ h0
 obtain ⟨ANS, hANS⟩ := nm_ (cB s)
 rw [hANS]
 unfold cB at hANS
 simp only at hANS
 obtain ⟨K, hK⟩ := nm_ w.heap.size
 obtain ⟨⟨l, ce, ca⟩, hc⟩ : ∃ c, cd s = c := ⟨_, rfl⟩
 rw [hc] at h0 T0 hANS
 simp only at h0 T0 hANS
 subst h0
 rw [K_ (by decide)] at hANS
 have T : gX l := T0
 clear T0
 obtain ⟨s4, h4⟩ := nm_ (aN l bQ ⟨0, 0, 1⟩)
 have hin0 : fE l ⟨0, 0, 1⟩ := ⟨by show (0 : Int) ≤ 0; omega, by show (0 : Int) < _; have := T.fin.1; omega, by show (0 : Int) ≤ 1; omega, by show (1 : Int) ≤ 27; omega, fun _ => by show (1 : Int) ≤ 24; omega⟩
 have hon4 := bg T.fin bQ (by decide) hin0
 rw [h4] at hon4
 obtain ⟨⟨nm, s5⟩, h5⟩ : ∃ x, aI l [] s4 = x := ⟨_, rfl⟩
 have hon5 := hon4.trans (ck T.fin [] hon4.1)
 rw [h5] at hon5
 obtain ⟨⟨ps, s7⟩, h7⟩ : ∃ x, eM l 6 [] s5 = x := ⟨_, rfl⟩
 have hon7 := hon5.trans (lq T.fin 6 [] s5 hon5.1)
 simp only [h7] at hon7
 obtain ⟨⟨ks, s8⟩, h8⟩ : ∃ x, az l (cE l 30) s7 = x := ⟨_, rfl⟩
 have hm7 : (25 : Int) - (30 : Nat) ≤ s7.nodes := by have := hon7.2; simp only at this; omega
 have hno := fj T.fin T.take 30
 have hon8 := cf T.fin hno hon7.1 hm7
 have hcnt := dA T.fin hno (kz T.fin T.take 30) hon7.1 hm7
 rw [h8] at hon8 hcnt
 simp only at hon8 hcnt
 obtain ⟨s9, h9⟩ := nm_ (if s8.bad = 0 ∧ (ah l s8.at_).kind ≠ 0 then bO 11 s8 else s8)
 have hrd : gO l = (nm, ps, ks, s9) := by
  unfold gO
  simp only [h4, h5, h7, h8, h9]
 rw [hrd] at hANS
 simp only at hANS
 have hon9 : fE l s9 := by
  rw [← h9]
  split
  ·exact (dU 11 (by decide) hon8.1).1
  ·exact hon8.1
 have hz9 : s9.bad = 0 → 1 + cn ks ≤ 1000 := fun hz => by
  have h8z : s8.bad = 0 := by
   rw [← h9] at hz
   split at hz
   ·exact absurd hz (bu (by decide) _)
   ·exact hz
  have h1 := (hcnt h8z).2
  have h2 := hon8.1.2.2.2.1
  have h3 := hon7.2
  simp only at h3
  omega
 have HS := hid (⟨h4, h5, h7, hin0, hon4.1, hon5.1, hon7.1, hon8.1, h9, hon9, hz9⟩ : _ ∧ _ ∧ _ ∧ _ ∧ _ ∧ _ ∧ _ ∧ _ ∧ _ ∧ _ ∧ _)
 have HBL := hid (fun (g : Nat) (A : Option Addr) (c : Nat) W (hr : fK l g A c W s7) => fZ T (nJ (g := g) (A := A) (c := c) T 30) hno hr hm7)
 rw [h8] at HBL
 have HANS := hid hANS
 have HC := hid hc
 have HK := hid hK
 rw [hK] at hz1
 have H1 := hj_ hb1 hz1
 have HW1 := hid hw1
 have hk1 : K < w1.heap.size := ab hz1
 clear hb1 hz1 hw1 hK hc hT hANS h4 h5 h7 h8 h9 hin0 hon4 hon5 hon7 hon8 hon9 hz9 hcnt hno hm7 hrd
 go_enter func9, ntmps9
 go_wp2_with fail
 rw [HW1.out, HK.out]
 refine HCUT.out.mono ?_
 unfold gI
 rw [HC.out]
 rintro r w2 ⟨A, c, rfl, hlc, hrow, hb2⟩
 simp only at hlc hrow
 go_upto_region 5 with fail
 obtain ⟨g, hg⟩ := nm_ w2.heap.size
 obtain ⟨w3, hw3, hb3, _⟩ := alo_ w2 (.cells #[.slice A l.length c, .int .i64 0, .int .i64 0, .int .i64 1] 51 (0, 0))
 have hk3 : nk w3 g A l.length c ⟨0, 0, 1⟩ := by unfold nk; rw [← hg, ← hw3]; exact I_ _ _
 rw [hw3, hg]
 have hrow3 : db.Row [g] w3 A l := ((hrow [] (fun k hk => by simp at hk)).less (fun k hk => by simp at hk; exact .inr (by omega))).keep (Same.of_below hb3)
 have hN3 : nH l g A c w3 w3 ⟨0, 0, 1⟩ := ⟨⟨hk3, hrow3, hlc, HS.out.2.2.2.1⟩, Same.refl _ _, ab hk3, hrow3⟩
 have HN3 := hid hN3
 have hkg : K < g := by have := hb2.size; omega
 have hz3 := (hb3.block K (by have := hb2.size; omega)).trans ((hb2.block K hk1).trans H1.out.2)
 have HW3 := hid (⟨H1.out.1.trans ((hb2.trans (hb3.mono hb2.size)).mono H1.out.1.size), hz3⟩ : Below w.heap.size w w3 ∧ _)
 clear hb3 hk3 hw3 hg hrow3 hN3 hz3 hlc hrow hb2
 go_wp2_with fail
 refine (dw T HN3.out.rdr bQ (by decide)).mono ?_
 rw [HS.out.1]
 rintro e w4 ⟨rfl, hr4, hs4⟩
 have HN4 := hid (HN3.out.step hs4 hr4 HS.out.2.2.2.2.1)
 clear hr4 hs4
 go_wp2_with fail
 refine (eV T HN4.out.rdr (cc := 0) (jd.nil w4 none)).mono ?_
 rw [HS.out.2.1]
 rintro e w5 ⟨rfl, hr5, hs5⟩
 have HN5 := hid (HN4.out.step hs5 hr5 HS.out.2.2.2.2.2.1)
 clear hr5 hs5
 go_upto_region 7 with fail
 obtain ⟨O, hO⟩ := nm_ w5.heap.size
 obtain ⟨w6, hw6, hb6, _⟩ := alo_ w5 (.cells #[.string nm, .slice none 0 0, .slice none 0 0] 26 (0, 0))
 have hk6 : w6.heap[O]? = some (.cells #[.string nm, .slice none 0 0, .slice none 0 0] 26 (0, 0)) := by rw [← hO, ← hw6]; exact I_ _ _
 rw [hw6, hO]
 have HN6 := hid (HN5.out.below hb6)
 have hgO : w3.heap.size ≤ O := by rw [← hO]; exact HN5.out.same.size
 have hg3 := HN3.out.lt
 have HK6 := hid hk6
 have hl6 : O < w6.heap.size := ab hk6
 clear hb6 hw6 hO hk6
 go_wp2_with fail
 refine (rK T HN6.out.rdr).mono ?_
 rw [HS.out.2.2.1]
 rintro e w7 ⟨pA, pc, rfl, hp7, hr7, hs7⟩
 simp only at hp7
 have HN7 := hid (HN6.out.step hs7 hr7 HS.out.2.2.2.2.2.2.1)
 have hk7 := hs7.heap (k := O) (by simp; omega) HK6.out
 obtain ⟨⟨k0, k1, k2⟩, f0, f1, f2⟩ := bx hk7
 have hs8 : Same [O] w7 (w7.setCell ⟨O, 1, none⟩ (.slice pA ps.length pc)) := (Same.refl [O] w7).setCell (.inl (by simp)) _
 have HN8 := hid (HN7.out.put hs8 hgO)
 have HK8 : Hid ((w7.setCell ⟨O, 1, none⟩ (.slice pA ps.length pc)).heap[O]? = some (.cells #[.string nm, .slice pA ps.length pc, .slice none 0 0] 26 (0, 0))) := hid (bh hk7 1 _)
 have HP8 : Hid (aw iV (fun k => k < w3.heap.size ∨ k = O) (w7.setCell ⟨O, 1, none⟩ (.slice pA ps.length pc)) pA pc ps) := hid ((hp7.keep hs8 (fun k hk => by simp at hk; omega)).more (fun k hk => .inl (by have := HN6.out.same.size; omega)))
 clear hp7 hr7 hs7 hk7 hs8
 go_wp2_with fail
 refine (HBL.out g A c _ HN8.out.rdr).mono ?_
 rintro e w9 ⟨B, b, rfl, hx9, hr9, hs9⟩
 simp only at hx9
 have HN9 := hid (HN8.out.step hs9 hr9 HS.out.2.2.2.2.2.2.2.1)
 have hk9 := hs9.heap (k := O) (by simp; omega) HK8.out
 have HP9 := hid (HP8.out.keep hs9 (fun k hk => by simp at hk; exact .inl (by omega)))
 have HX9 : Hid (aw jv (fun k => k < w3.heap.size ∨ k = O) w9 B b ks) := hid (hx9.more (fun k hk => .inl (by have := HN8.out.same.size; have := ab HK8.out; omega)))
 have HK9 := hid hk9
 clear hx9 hr9 hs9 hk9 k0 k1 k2 f0 f1 f2
 go_upto_region 9 with fail
 obtain ⟨R, hR⟩ := nm_ w9.heap.size
 obtain ⟨w10, hw10, hb10, _⟩ := alo_ w9 (.cells #[.int .i64 0, .slice none 0 0, .slice B ks.length b] 58 (0, 0))
 have hk10 : w10.heap[R]? = some (.cells #[.int .i64 0, .slice none 0 0, .slice B ks.length b] 58 (0, 0)) := by rw [← hR, ← hw10]; exact I_ _ _
 rw [hw10, hR]
 have HN10 := hid (HN9.out.below hb10)
 have hOR : O < R := by rw [← hR]; exact ab HK9.out
 have HO10 := bl_ hb10 HK9
 have HP10 := hid (HP9.out.below hb10)
 have HX10 := hid (HX9.out.below hb10)
 have HR10 := hid hk10
 clear hb10 hw10 hR hk10
 have HD10 : Hid (nH l g A c w10 w10 s8) := hid ⟨HN10.out.rdr, Same.refl _ _, HN10.out.rdr.lt, HN10.out.rdr.row⟩
 obtain ⟨t, ht⟩ := nm_ (ah l s8.at_)
 have HT := hid ht
 go_cut [43] (fun s43 wx => s43 = .bool (s8.bad == 0 && t.kind != 0) ∧ nH l g A c w10 wx s8)
 case first =>
  obtain ⟨q, hq⟩ := nm_ (t.kind != 0)
  have HTK := hid (bL HD10.out.rdr)
  have HOK := hid (fG HD10.out.rdr)
  have hfd := fun W => (ey (.int .i64 t.kind) (.string t.text) (.int .i64 t.n) (.int .i64 t.at_) W).1
  rw [ht] at HTK
  clear ht
  by_cases hb : s8.bad = 0
  ·have hbb : (s8.bad == 0) = true := D_ hb
   rw [hbb] at HOK
   cases q
   all_goals
    go_wp2_with fail
    refine HOK.out.mono ?_
    rintro e w11 ⟨rfl, rfl⟩
    go_wp2_with fail
    refine HTK.out.mono ?_
    rintro e w11 ⟨rfl, hb11⟩
    go_wp2_with fail
    go_meet
    exact ⟨by rw [hbb, hq]; rfl, HD10.out.below hb11⟩
  ·have hbb : (s8.bad == 0) = false := A_ hb
   rw [hbb] at HOK
   go_wp2_with fail
   refine HOK.out.mono ?_
   rintro e w11 ⟨rfl, rfl⟩
   go_wp2_with fail
   go_meet
   exact ⟨by rw [hbb]; rfl, HD10.out⟩
 case rest =>
  obtain ⟨rfl, hD⟩ := hcut
  have HD11 := hid hD
  obtain ⟨q, hq⟩ := nm_ (s8.bad == 0 && t.kind != 0)
  rw [hq]
  have h9q : (if q = true then bO 11 s8 else s8) = s9 := by
   rw [← HS.out.2.2.2.2.2.2.2.2.1, ← hq, ht]
   by_cases h1 : s8.bad = 0 ∧ t.kind ≠ 0
   ·rw [M_ h1, M_ (by simpa using h1)]
   ·rw [K_ h1, K_ (by simpa using h1)]
  have H9 := hid h9q
  clear hD hq h9q ht
  go_upto_if 43 with fail
  go_cut [] (fun wx => nH l g A c w10 wx s9)
  case first =>
   cases q
   ·go_wp2_with fail
    go_meet
    have h : s8 = s9 := by simpa using H9.out
    exact h ▸ HD11.out
   ·go_wp2_with fail
    refine (eh HD11.out.rdr 11).mono ?_
    rintro e w12 ⟨rfl, hr12, hs12⟩
    go_wp2_with fail
    go_meet
    have h : bO 11 s8 = s9 := by simpa using H9.out
    exact HD11.out.step hs12 (h ▸ hr12) HS.out.2.2.2.2.2.2.2.2.2.1
  case rest =>
   have HD12 := hid hcut
   have HOK := hid (fG hcut.rdr)
   have hK10 := HN10.out.same.heap (k := K) (by simp; omega) HW3.out.2
   have hz := hcut.same.heap (k := K) (by simp; omega) hK10
   have hO := hcut.same.heap (k := O) (by simp; omega) HO10.out
   have hR := hcut.same.heap (k := R) (by simp; omega) HR10.out
   have HB := hl_ hz hO hR hcut.same
   have HX := hid (HX10.out.keep hcut.same (fun k hk => by simp at hk; exact .inl (by omega)))
   have HPR := hid (HP10.out.keep hcut.same (fun k hk => by simp at hk; exact .inl (by omega)))
   have hKO : K ≠ O := by omega
   clear hcut hK10 hz hO hR
   have hOl := ab HB.out.2.1
   have hRl := ab HB.out.2.2.1
   have hKl : K < w3.heap.size := by omega
   have HSZ := hid (d_ HN10.out.same.size HB.out.2.2.2.size)
   by_cases hb : s9.bad = 0
   ·have hbb : (s9.bad == 0) = true := D_ hb
    have h := HANS.out
    rw [K_ (by simpa using hb)] at h
    have HA := hid h
    rw [hbb] at HOK
    have hav : Av jv (fun k => (k < w3.heap.size ∨ k = O) ∨ k ∈ bF (.slice none 0 0) []) _ (.row 0 [] ks) [p8 0 none 0 0 B ks.length b] := Av.row (us := []) (uc := 0) (aw.nil _ _ _ none 0) (HX.out.more (fun k hk => .inl (hk.elim id (fun h => by simp [bF, Value.ownBlock] at h))))
    have HNM := hid (oP _ (fun k => k < w3.heap.size ∨ k = O) (fun k hk => by have := HSZ.out; rcases hk with hk | hk <;> omega) (SizeOf.sizeOf (Pc.row 0 [] ks) + 1) (.row 0 [] ks) 58 _ _ none 0 0 [] (by omega) (cG.nil _ _ _) hav le_ (by rw [dW, cP]; have := HS.out.2.2.2.2.2.2.2.2.2.2 hb; omega))
    obtain ⟨⟨r0, r1, r2⟩, _⟩ := bx HB.out.2.2.1
    clear hb hbb h hav
    go_wp2_with fail
    refine HOK.out.mono ?_
    rintro e w12 ⟨rfl, rfl⟩
    go_wp2_with fail
    refine HNM.out.mono ?_
    rintro r w13 ⟨B', b', qs', rfl, hB', hnd, hS', _⟩
    have hO13 := hS'.heap (k := O) (by simp [bF, Value.ownBlock]) HB.out.2.1
    have hK13 := hS'.heap (k := K) (by simp [bF, Value.ownBlock]) HB.out.1
    have hS0 : Same [] _ w13 := hS'.mono (fun x hx => by simp [bF, Value.ownBlock] at hx)
    have H13 := hl_ (hB'.out (fun k hk => by have := HSZ.out; rcases hk with hk | hk <;> omega)) hnd (HPR.out.keep hS0 (fun k hk => by simp at hk)) hS0
    obtain ⟨⟨o0, o1, o2⟩, f0, f1, f2⟩ := bx hO13
    obtain ⟨⟨z0, z1, z2⟩, e0, e1, e2⟩ := bx hK13
    have hs14 : Same [O] w13 (w13.setCell ⟨O, 2, none⟩ (.slice B' qs'.length b')) := (Same.refl [O] w13).setCell (.inl (by simp)) _
    have HS14 := hid hs14
    clear hB' hnd hS' hO13 hK13 hS0 hs14 r0 r1 r2
    go_wp2_with fail
    refine L_ (v := .tuple #[.agg #[.string nm, .slice pA ps.length pc, .slice B' qs'.length b'], .int .i64 0, .int .i64 0]) (by simp [results, results9, go_sem, *]) rfl ?_
    rw [← HA.out]
    obtain ⟨hnod, hnd, hprm, hS0⟩ := H13.out
    have hsK := nW (w13.setCell ⟨O, 2, none⟩ (.slice B' qs'.length b')) K (.string nm) (.slice pA ps.length pc) (.slice B' qs'.length b')
    have hnl : qs'.map (·.nd) = bV 0 (.row 0 [] ks) := by rw [hnd]; rfl
    rw [hnl] at hnod
    have hql : qs'.length = (bV 0 (.row 0 [] ks)).length := by rw [← hnl, U_]
    have hw0 := H1.out.1.size
    have hw3 := HW3.out.1.size
    refine ⟨pA, pc, B', b', by rw [hql], ((hprm.keep HS14.out (fun k hk => by simp at hk; exact .inr hk)).keep hsK (fun k hk => by simp at hk; exact .inl (by omega))).more (fun k hk => .inl (.inl (by omega))), ((hnod.keep HS14.out (fun k hk => by simp at hk; exact .inr hk)).keep hsK (fun k hk => by simp at hk; exact .inl (by omega))).more (fun k hk => .inl (.inl (by omega))), ?_⟩
    have hKw := HK.out
    exact (((((Same.of_below (M := [g, O, K]) HW3.out.1).trans HN10.out.same (fun x hx => by simp at hx; simp [hx])).trans HB.out.2.2.2 (fun x hx => by simp at hx; simp [hx])).trans hS0 (fun x hx => by simp at hx)).trans HS14.out (fun x hx => by simp at hx; simp [hx])).trans hsK (fun x hx => by simp at hx; simp [hx]) |>.below_of (fun k hk => by simp at hk; omega)
   ·have hbb : (s9.bad == 0) = false := A_ hb
    have h := HANS.out
    rw [M_ (by simpa using hb)] at h
    have HA := hid h
    rw [hbb] at HOK
    obtain ⟨t9, ht9⟩ := nm_ (ah l s9.at_)
    have HT9 := hid ht9
    have HTK := hid (fun W (hbW : Below _ _ W) => bL (HD12.out.rdr.step hbW))
    rw [ht9] at HTK
    have hfd := fun W => (ey (.int .i64 t9.kind) (.string t9.text) (.int .i64 t9.n) (.int .i64 t9.at_) W).2.2
    obtain ⟨⟨z0, z1, z2⟩, e0, e1, e2⟩ := bx HB.out.1
    obtain ⟨⟨c0, c1, c2, c3⟩, f0, f1, f2, f3⟩ := av HD12.out.rdr.rd
    have hgl := HD12.out.rdr.lt
    have hKl2 := ab HB.out.1
    clear hb hbb h ht9
    go_wp2_with fail
    refine HOK.out.mono ?_
    rintro e w12 ⟨rfl, rfl⟩
    go_wp2_with fail
    go_region_with (go_at_call 29; refine (HTK.out _ ?_).mono ?_; (first | exact J_ _ _ | exact (J_ _ _).drew); rintro r w13 ⟨rfl, hb13⟩; have y0 := (hb13.cell (p := ⟨K, 0, none⟩) hKl2).trans z0; have y1 := (hb13.cell (p := ⟨K, 1, none⟩) hKl2).trans z1; have y2 := (hb13.cell (p := ⟨K, 2, none⟩) hKl2).trans z2; have g0 := (hb13.frozen (p := ⟨K, 0, none⟩) hKl2).trans e0; have g1 := (hb13.frozen (p := ⟨K, 1, none⟩) hKl2).trans e1; have g2 := (hb13.frozen (p := ⟨K, 2, none⟩) hKl2).trans e2; have x2 := (hb13.cell (p := ⟨g, 2, none⟩) hgl).trans c2; have hk13 : K < w13.heap.size := Y_ hKl2 hb13.size; have hg13 : g < w13.heap.size := Y_ hgl hb13.size; have H13 := hid hb13; clear hb13)
    all_goals
     go_wp2
     refine L_ (v := .tuple #[.agg #[.string ⟨#[]⟩, .slice none 0 0, .slice none 0 0], .int .i64 s9.bad, .int .i64 t9.at_]) (by simp [results, results9, go_sem, *]) rfl ?_
     rw [← HA.out, HT9.out]
     have hw3 := HW3.out.1.size
     have hKw := HK.out
     have hbx : Below w.heap.size w _ := ((((Same.of_below (M := [g]) HW3.out.1).trans HN10.out.same (fun x hx => by simp at hx; simp [hx])).trans HB.out.2.2.2 (fun x hx => by simp at hx; simp [hx]))).below_of (fun k hk => by simp at hk; omega)
     have hb14 : Below w.heap.size w w13 := by first | exact hbx.trans (H13.out.mono hbx.size) | exact hbx.drew.trans (H13.out.mono hbx.size)
     exact tH HK.out hb14 _ _ _ rfl rfl rfl rfl
theorem gJ (s w) (hT : bq w) (hs : s.size ≤ 9223372036854775806) : Calls prog 9 #[.string s] w (iM (cB s) w) := by
 by_cases h : (cd s).2.1 = 0
 ·exact qt s w hT hs h
 ·have e : cB s = (ko, (cd s).2.1, (cd s).2.2) := by unfold cB; rw [M_ h]
  rw [e]
  exact r' s w hT hs h
end Go.Proofs.YtgcfjkfipkfijaaGreatDoor
