/- Part 16 of the proof of rtexts_card; no conditions. -/
import Derived.Test.YtgcfjkfipkfijaaGreatDoorTx15
import Derived.Test.YtgcfjkfipkfijaaGreatDoorTx02
import Derived.Test.YtgcfjkfipkfijaaGreatDoorTx01
import Derived.Test.YtgcfjkfipkfijaaGreatDoorTx10
import Derived.Deep.DrawnRows
import Derived.ChangeAlike
import Derived.RegionTactic
import Derived.Deep.DeepCutAuto
import Derived.Deep.CutBlock
namespace Go.Proofs.YtgcfjkfipkfijaaGreatDoor
open Go Go.RowKit Go.Lib
attribute [local go_sem ↓] Go.wp_at_zero Go.wp_at_succ
theorem cutG_step {f : Nat} {l : List UInt8} {a : Int} {out : List Tok} (hl : l ≠ []) (ho : out.length ≠ 2000) (he : (tokF l).2.2 = 0) :
  cutG (f + 1) l a out = cutG f (skip (l.drop (tokF l).2.1.toNat) (a + (runes (l.take (tokF l).2.1.toNat)).length)).1 (skip (l.drop (tokF l).2.1.toNat) (a + (runes (l.take (tokF l).2.1.toNat)).length)).2 (out ++ [{ (tokF l).1 with at_ := a }]) := by
 simp only [cutG, if_neg hl, if_neg ho, he, ne_eq, not_true_eq_false, if_false]
theorem cutG_bad {f : Nat} {l : List UInt8} {a : Int} {out : List Tok} (hl : l ≠ []) (ho : out.length ≠ 2000) (he : (tokF l).2.2 ≠ 0) : cutG (f + 1) l a out = ([], (tokF l).2.2, a) := by
 simp only [cutG, if_neg hl, if_neg ho]; rw [if_pos he]
theorem cutG_many {f : Nat} {l : List UInt8} {a : Int} {out : List Tok} (hl : l ≠ []) (ho : out.length = 2000) : cutG (f + 1) l a out = ([], 2, a) := by
 simp only [cutG, if_neg hl, if_pos ho]; rw [if_pos (by decide)]
theorem cutG_end {f : Nat} {a : Int} {out : List Tok} : cutG (f + 1) [] a out = (out ++ [⟨0, ⟨#[]⟩, 0, a⟩], 0, 0) := by
 simp only [cutG, if_true]
theorem info52 : (Tryz.prog.info? 60).map (fun i => (i.zero, i.size, i.bytes)) = some (some (.agg #[.int .i64 0, .string ⟨#[]⟩, .int .i64 0, .int .i64 0]), 4, 40) := by kernel_rfl
def CutPost (s : ByteArray) (w : World) (e : Ending) (w' : World) : Prop :=
 ∃ A c, e = .returned (.tuple #[.slice A (cutB s).1.length c, .int .i64 (cutB s).2.1, .int .i64 (cutB s).2.2]) ∧ (cutB s).1.length ≤ c ∧ (∀ M : List Nat, (∀ k, k ∈ M → k < w.heap.size) → tokK.Row M w' A (cutB s).1) ∧ Below w.heap.size w w'
theorem cutPost_bad {s : ByteArray} {w w' : World} {er at_ : Int} (h : cutB s = ([], er, at_)) (hb : Below w.heap.size w w') : CutPost s w (.returned (.tuple #[.slice none 0 0, .int .i64 er, .int .i64 at_])) w' := by
 unfold CutPost
 rw [h]
 exact ⟨none, 0, rfl, Nat.le_refl _, fun M _ => Kind.Row.nil _ _ _ _, hb⟩
theorem cutPost_ok {s : ByteArray} {w w' : World} {out : List Tok} {v : Value} {base : Nat} (h : cutB s = (out, 0, 0)) (ho : w'.ownsRow base 60 4 v out.length (out.flatMap tokE)) (hbase : w.heap.size ≤ base) (hb : Below w.heap.size w w') :
  CutPost s w (.returned (.tuple #[v, .int .i64 0, .int .i64 0])) w' := by
 unfold CutPost
 rw [h]
 obtain ⟨A, c, rfl, hc, hr⟩ := row_of_own (d := tokK) tokE_len ho (M := []) (fun k hk => by simp at hk) (fun x _ => tokE_rep _ _ x)
 refine ⟨A, c, rfl, hc, fun M hM => ?_, hb⟩
 obtain ⟨A', c', he, _, hr'⟩ := row_of_own (d := tokK) tokE_len ho (M := M) (fun k hk => Nat.lt_of_lt_of_le (hM k hk) hbase) (fun x _ => tokE_rep _ _ x)
 injection he with he1 _ _
 rw [he1]
 exact hr'
set_option maxHeartbeats 4000000 in
set_option maxRecDepth 100000 in
theorem cut_any (s : ByteArray) (w : World) (hT : Tabs w) (hs : s.size ≤ 9223372036854775806) : Calls Tryz.prog 23 #[.string s] w (CutPost s w) := by
 by_cases h1 : 8192 < s.size
 ·have hz : (8192 : Int) < s.size := by omega
  have HX : Hid (cutB s = ([], 2, 0)) := by unfold cutB; rw [if_pos h1]; exact rfl
  clear h1
  go_enter Tryz.func23, Tryz.ntmps23
  go_wp2_with fail
  refine bodyPost_ret (results_tmp3 rfl _ _ _) rfl ?_
  exact cutPost_bad HX.out (Below.refl _ _)
 have hz : (s.size : Int) ≤ 8192 := by omega
 have HBAD := Lib.hid (bad_any s w hs hT)
 by_cases h2 : 0 ≤ badF 0 (runes s.data.toList)
 ·have HX : Hid (cutB s = ([], 10, badF 0 (runes s.data.toList))) := by unfold cutB; rw [if_neg h1, if_pos h2]; exact rfl
  clear h1 hT
  go_enter Tryz.func23, Tryz.ntmps23
  go_wp2_with fail
  refine HBAD.out.mono ?_
  rintro e w1 ⟨rfl, hb1⟩
  go_wp2_with fail
  refine bodyPost_ret (results_tmp3 rfl _ _ _) rfl ?_
  exact cutPost_bad HX.out hb1
 have h2' : badF 0 (runes s.data.toList) < 0 := by omega
 obtain ⟨ANS, hANS⟩ : ∃ ANS, cutB s = ANS := ⟨_, rfl⟩
 have HX : Hid (cutG (s.size + 1) (skip s.data.toList 0).1 (skip s.data.toList 0).2 [] = ANS) := by rw [← hANS]; unfold cutB; rw [if_neg h1, if_neg h2]; exact rfl
 have HANS := Lib.hid hANS
 have HT := Lib.hid hT
 clear h1 h2 hANS hT
 go_enter Tryz.func23, Tryz.ntmps23
 go_wp2_with fail
 refine HBAD.out.mono ?_
 rintro e w1 ⟨rfl, hb1⟩
 clear HBAD
 have hT1 := Lib.hid (HT.out.below hb1)
 have HB1 := Lib.hid hb1
 clear hb1 HT
 go_wp2_with fail
 obtain ⟨G, hG⟩ : ∃ G, w1.heap.size = G := ⟨_, rfl⟩
 obtain ⟨w2, hw2⟩ : ∃ w2, w1.alloc (.cells #[.string s, .int .i64 0, .slice none 0 0] 84) = w2 := ⟨_, rfl⟩
 have hk2 : CutB w2 G s 0 (.slice none 0 0) := by rw [← hw2, ← hG]; exact heap_alloc_new _ _
 have hb2 : Below w1.heap.size w1 w2 := by rw [← hw2]; exact (Below.refl _ _).alloc (Nat.le_refl _) _
 rw [hw2, hG]
 have HG := Lib.hid hG
 have hsz2 : G < w2.heap.size := blk_lt hk2
 have HS2 : Hid (Same [G] w1 w2) := Same.of_below hb2
 have HFIN : Hid (∀ W, Same [G] w1 W → Below w.heap.size w W) := fun W h => HB1.out.trans ((h.below_of (fun k hk => by simp at hk; omega)).mono HB1.out.size)
 clear hw2 hG hb2
 refine (blanks_any G s 0 _ w2 hk2 (by omega) (by omega) (by omega) _ rfl).mono ?_
 rintro e w3 ⟨rfl, r, a, hk3, hs3, hr3, ha3, hl1, hl2, hl3⟩
 go_wp2_with fail
 have hr0 : cutG (s.size + 1) r.data.toList a [] = ANS := by
  have h := HX.out
  unfold skip at h
  rw [size_data, ← hr3, ← ha3] at h
  exact h
 go_loopg [7, 8, 9] (s.size + 1) (fun k _ _ _ w' => ∃ (r : ByteArray) (a : Int) (A : Option Addr) (c : Nat) (out : List Tok), CutB w' G r a (.slice A out.length c) ∧
  w'.ownsRow (G + 1) 60 4 (.slice A out.length c) out.length (out.flatMap tokE) ∧ Same [G] w1 w' ∧ r.size < k ∧ out.length ≤ 2000 ∧ 0 ≤ a ∧ a + r.size ≤ s.size ∧ cutG k r.data.toList a out = ANS)
 case atStart => exact ⟨r, a, none, 0, [], hk3, ⟨rfl, .inl ⟨rfl, rfl⟩⟩, HS2.out.trans hs3 (fun x hx => .inl hx), by omega, by simp, by omega, by omega, hr0⟩
 case round =>
  clear hk2 hk3 hs3 hr3 ha3 hl1 hl2 hl3 hr0 hsz2
  obtain ⟨r, a, A, c, out, hk, hown, hS, hrk, hol, ha0, har, hans⟩ := hrel
  obtain ⟨gk, rfl⟩ : ∃ k, gk = k + 1 := ⟨gk - 1, by omega⟩
  have HK := Lib.hid hk
  have HOWN := Lib.hid hown
  have HS := Lib.hid hS
  have HA := Lib.hid hans
  have hg := blk_lt hk
  have hc0 : wr.cell? ⟨G, 0, none⟩ = some (.string r) := (blk_cell hk 0).trans rfl
  have HGT : Hid (gTop ≤ G) := by have := hT1.out.size; rw [HG.out] at this; exact this
  have HTr : Hid (Tabs wr) := hT1.out.keep hS (fun k hk => by simp at hk; subst hk; exact HGT.out)
  clear hk hown hS hans
  by_cases hp : 0 < r.size
  ·have hne := nonempty_ne hp
   have hl : r.data.toList ≠ [] := by intro e; have := size_data r; rw [e] at this; simp at this; omega
   have HL := Lib.hid hl
   clear hl
   go_wp2_with fail
   refine (token_any G r a _ wr HK.out (by omega) hp HTr.out).mono ?_
   rintro e w4 ⟨⟨⟨⟨t1, t2, t3, t4⟩, tn, te⟩, htok, rfl⟩, hb4⟩
   have HTOK := Lib.hid htok
   have HK4 : Hid (CutB w4 G r a (.slice A out.length c)) := (hb4.block _ hg).trans HK.out
   have HO4 := Lib.hid (own_below HOWN.out hb4)
   have HS4 := Lib.hid (HS.out.below_ hb4)
   have hg4 := blk_lt HK4.out
   have d0 : w4.cell? ⟨G, 0, none⟩ = some (.string r) := (blk_cell HK4.out 0).trans rfl
   have d1 : w4.cell? ⟨G, 1, none⟩ = some (.int .i64 a) := (blk_cell HK4.out 1).trans rfl
   have d2 : w4.cell? ⟨G, 2, none⟩ = some (.slice A out.length c) := (blk_cell HK4.out 2).trans rfl
   clear hb4 hc0 htok
   by_cases ho : out.length = 2000
   ·have HO := Lib.hid ho
    have hob : ((out.length : Int) == 2000) = true := by rw [beq_iff_eq]; omega
    clear ho
    go_wp2_with fail
    go_quiet (fail)
    go_wp2_with fail
    refine bodyPost_ret (results_tmp3 rfl _ _ _) rfl ?_
    refine cutPost_bad (by have h := HA.out; rw [cutG_many HL.out HO.out] at h; rw [HANS.out, ← h]) ?_
    exact HFIN.out _ ((HS4.out.alloc _).drewN _)
   ·have hob : ((out.length : Int) == 2000) = false := by rw [beq_eq_false_iff_ne]; omega
    have HO := Lib.hid ho
    clear ho
    by_cases he : te = 0
    ·subst he
     have htb := tokF_ok HL.out (by rw [← HTOK.out])
     rw [← HTOK.out, size_data] at htb
     obtain ⟨htb1, htb2⟩ := htb
     simp only at htb1 htb2
     go_wp2_with fail
     obtain ⟨w5, hw5⟩ : ∃ w5, w4.alloc (.cells #[.int .i64 t1, .string t2, .int .i64 t3, .int .i64 a] 60) = w5 := ⟨_, rfl⟩
     obtain ⟨TB, hTB⟩ : ∃ TB, w4.heap.size = TB := ⟨_, rfl⟩
     have hk5 : w5.heap[TB]? = some (.cells #[.int .i64 t1, .string t2, .int .i64 t3, .int .i64 a] 60 (0, 0)) := by rw [← hw5, ← hTB]; exact heap_alloc_new _ _
     have hb5 : Below w4.heap.size w4 w5 := by rw [← hw5]; exact (Below.refl _ _).alloc (Nat.le_refl _) _
     have HK5 : Hid (CutB w5 G r a (.slice A out.length c)) := (hb5.block _ hg4).trans HK4.out
     have HO5 := Lib.hid (own_below HO4.out hb5)
     have HS5 := Lib.hid (HS4.out.below_ hb5)
     rw [hw5, hTB]
     rw [hTB] at hg4
     have e2 : w5.cell? ⟨G, 2, none⟩ = some (.slice A out.length c) := (blk_cell HK5.out 2).trans rfl
     have f2 := blk_frozen HK5.out 2
     have q0 := (blk_cell hk5 0).trans rfl
     have q1 := (blk_cell hk5 1).trans rfl
     have q2 := (blk_cell hk5 2).trans rfl
     have q3 := (blk_cell hk5 3).trans rfl
     have hlt5 := blk_lt hk5
     have hg5 := blk_lt HK5.out
     clear hw5 hTB hk5 hb5 d0 d1 d2
     go_cut [] (fun wx => ∃ (g cap : Nat), CutB wx G r a (.slice (some ⟨g, 0, none⟩) (out.length + 1) cap) ∧
      wx.ownsRow (G + 1) 60 4 (.slice (some ⟨g, 0, none⟩) (out.length + 1) cap) (out.length + 1) (out.flatMap tokE ++ [.int .i64 t1, .string t2, .int .i64 t3, .int .i64 a]) ∧ Same [G] w1 wx)
     case first =>
      obtain ⟨i0, hi0, hz0, hz1, hz2⟩ := info_parts info52
      have hne : some G ≠ (Value.slice A out.length c).ownBlock := fun e => by have := own_block HO5.out G e.symm; omega
      have hgl : ∀ o, G < ((w5.alloc o).drew).heap.size := fun o => Nat.lt_of_lt_of_le hg5 ((Below.refl w5.heap.size w5).alloc (Nat.le_refl _) o).size
      have he2 : ∀ o, ((w5.alloc o).drew).cell? ⟨G, 2, none⟩ = some (.slice A out.length c) := fun o => (((Below.refl w5.heap.size w5).alloc (Nat.le_refl _) o).cell (p := ⟨G, 2, none⟩) hg5).trans e2
      have hf2 : ∀ o, ((w5.alloc o).drew).frozen? ⟨G, 2, none⟩ = false := fun o => (((Below.refl w5.heap.size w5).alloc (Nat.le_refl _) o).frozen (p := ⟨G, 2, none⟩) hg5).trans f2
      go_region_law
       ((refine step_append_lies _ (by rfl) _ _ _ (by rfl) (G + 1) 60 i0 _ 4 40 Tryz.underlying46 hi0 hz0 hz1 hz2 rfl (by omega) (.slice A out.length c) out.length (out.flatMap tokE) (by rfl) ((HO5.out.alloc _).drew)
           ⟨w5.heap.size, 0, none⟩ 1 1 [.int .i64 t1, .string t2, .int .i64 t3, .int .i64 a] (by rfl) (by rfl) (World.news_of_block (cs := #[.int .i64 t1, .string t2, .int .i64 t3, .int .i64 a]) (t := 60) (fr := (0, 0)) (heap_alloc_new w5 _)) (by simp [Value.oneCell'])
           (by omega) (by unfold maxLen; omega) (by omega) (by simp; omega) (w5.heap.size + 1) (by simp) ?_; intro g cap w6 hown6 hgrow hat hlt; have z6 := (hgrow.cell_far ⟨G, 2, none⟩ (hgl _) hne).trans (he2 _); have y6 := (hgrow.frozen_far ⟨G, 2, none⟩ (hgl _) hne).trans (hf2 _)))
      all_goals
       go_wp2_with fail
       go_meet
       have k6 := (hgrow.block G (hgl _) hne).trans ((((Below.refl w5.heap.size w5).alloc (Nat.le_refl _) _).block G hg5).trans HK5.out)
       have hgg := (own_block hown6 g rfl).1
       exact ⟨g, cap, blk_set k6 2 _, own_set hown6 (p := ⟨G, 2, none⟩) (by simp [Value.ownBlock]; omega) _,
        ((((HS5.out.alloc _).drew).grown hgrow (fun k hk => by have := (own_block HO5.out k hk).1; have := HG.out; exact .inr (by omega))).setCell (.inl (by simp)) _)⟩
     case rest =>
      obtain ⟨g, cap, hk6, hown6, hs6⟩ := hcut
      clear e2 f2 q0 q1 q2 q3 hlt5 hg5
      go_wp2_with fail
      refine (pass_any G r a _ tn _ hk6 (by omega) (by omega) (by omega) ha0 (by omega)).mono ?_
      rintro e w7 ⟨rfl, hk7, hs7⟩
      have HO7 := Lib.hid (own_same hown6 hs7 (fun k hk => by simp at hk; omega))
      have HS7 := Lib.hid (hs6.then_ hs7)
      clear hk6 hown6 hs6 hs7
      go_wp2_with fail
      have hle := runes_len (r.data.toList.take tn.toNat)
      rw [List.length_take, size_data] at hle
      have hsz7 : (r.extract tn.toNat r.size).size = r.size - tn.toNat := Lib.ext_size _ _
      refine (blanks_any G _ _ _ _ hk7 (by omega) (by omega) (by omega) _ rfl).mono ?_
      rintro e w8 ⟨rfl, r8, a8, hk8, hs8, hr8, ha8, hm1, hm2, hm3⟩
      go_wp2_with fail
      go_roundg gk
      case measure => omega
      case rel =>
       have h := HA.out
       rw [cutG_step HL.out HO.out (by rw [← HTOK.out]), ← HTOK.out] at h
       unfold skip at h
       rw [← ext_drop, size_data, ← hr8, ← ha8] at h
       have h20 := HO.out
       have hlen : (out ++ [(⟨t1, t2, t3, a⟩ : Tok)]).length = out.length + 1 := by simp
       refine ⟨r8, a8, some ⟨g, 0, none⟩, cap, out ++ [⟨t1, t2, t3, a⟩], by rw [hlen]; exact hk8, ?_, HS7.out.then_ hs8, by omega, by rw [hlen]; omega, by omega, by omega, h⟩
       rw [hlen, List.flatMap_append]
       exact own_same HO7.out hs8 (fun k hk => by simp at hk; omega)
    ·have heb : (te != 0) = true := by rw [bne_iff_ne]; exact he
     have HE := Lib.hid he
     clear he
     go_wp2_with fail
     go_quiet (fail)
     go_wp2_with fail
     refine bodyPost_ret (results_tmp3 rfl _ _ _) rfl ?_
     refine cutPost_bad (by have h := HA.out; rw [cutG_bad HL.out HO.out (by rw [← HTOK.out]; exact HE.out), ← HTOK.out] at h; rw [HANS.out, ← h]) ?_
     exact HFIN.out _ ((HS4.out.alloc _).drewN _)
  ·have hne := nonempty_eq hp
   have hnil : r.data.toList = [] := List.eq_nil_of_length_eq_zero (by rw [size_data]; omega)
   have h := HA.out
   rw [hnil, cutG_end] at h
   have HE := Lib.hid h
   clear h hnil
   have d1 : wr.cell? ⟨G, 1, none⟩ = some (.int .i64 a) := (blk_cell HK.out 1).trans rfl
   have d2 : wr.cell? ⟨G, 2, none⟩ = some (.slice A out.length c) := (blk_cell HK.out 2).trans rfl
   go_wp2_with fail
   obtain ⟨i0, hi0, hz0, hz1, hz2⟩ := info_parts info52
   go_region_law
    ((refine step_append_lies _ (by rfl) _ _ _ (by rfl) (G + 1) 60 i0 _ 4 40 Tryz.underlying46 hi0 hz0 hz1 hz2 rfl (by omega) (.slice A out.length c) out.length (out.flatMap tokE) (by rfl) ((HOWN.out.alloc _).drew)
        ⟨wr.heap.size, 0, none⟩ 1 1 [.int .i64 0, .string ⟨#[]⟩, .int .i64 0, .int .i64 a] (by rfl) (by rfl) (World.news_of_block (cs := #[.int .i64 0, .string ⟨#[]⟩, .int .i64 0, .int .i64 a]) (t := 60) (fr := (0, 0)) (heap_alloc_new wr _)) (by simp [Value.oneCell'])
        (by omega) (by unfold maxLen; omega) (by omega) (by simp; omega) (wr.heap.size + 1) (by simp) ?_; intro g cap w6 hown6 hgrow hat hlt))
   all_goals
    go_wp2_with fail
    refine bodyPost_ret (results_tmp3 rfl _ _ _) rfl ?_
    have hS6 := (((HS.out.alloc _).drew).grown hgrow (fun k hk => by have := (own_block HOWN.out k hk).1; have := HG.out; exact .inr (by omega)))
    have ho6 : w6.ownsRow (G + 1) 60 4 (.slice (some ⟨g, 0, none⟩) (out.length + 1) cap) (out ++ [(⟨0, ⟨#[]⟩, 0, a⟩ : Tok)]).length ((out ++ [(⟨0, ⟨#[]⟩, 0, a⟩ : Tok)]).flatMap tokE) := by
     rw [List.flatMap_append, List.length_append]
     exact hown6
    exact cutPost_ok (HANS.out.trans HE.out.symm) ho6 (by have := HB1.out.size; have := HG.out; omega) (HFIN.out _ hS6)
end Go.Proofs.YtgcfjkfipkfijaaGreatDoor
namespace Go.Proofs.YtgcfjkfipkfijaaGreatDoor
open Go Go.RowKit Go.Lib
def RecPost (p : Rec × Int × Int) (w : World) (r : Ending) (w' : World) : Prop :=
 ∃ pA pc nA nc, r = .returned (.tuple #[.agg #[.string p.1.name, .slice pA p.1.params.length pc, .slice nA p.1.nodes.length nc], .int .i64 p.2.1, .int .i64 p.2.2]) ∧ RowF prmK (fun k => k < w.heap.size) w' pA pc p.1.params ∧ RowF ndK (fun k => k < w.heap.size) w' nA nc p.1.nodes ∧ Below w.heap.size w w'
theorem same_set3 (w : World) (k : Nat) (a b c : Value) : Same [k] w (((w.setCell ⟨k, 0, none⟩ a).setCell ⟨k, 1, none⟩ b).setCell ⟨k, 2, none⟩ c) :=
 (((Same.refl [k] w).setCell (.inl (by simp)) _).setCell (.inl (by simp)) _).setCell (.inl (by simp)) _
theorem rec_bad {w W : World} {K : Nat} {e a : Int} {pA nA : Option Addr} {pc nc : Nat} (hK : w.heap.size = K) (hb : Below w.heap.size w W) (x y z : Value) (h1 : pA = none) (h2 : nA = none) (h3 : pc = 0) (h4 : nc = 0) :
  RecPost (zRec, e, a) w (.returned (.tuple #[.agg #[.string ⟨#[]⟩, .slice pA 0 pc, .slice nA 0 nc], .int .i64 e, .int .i64 a])) (((W.setCell ⟨K, 0, none⟩ x).setCell ⟨K, 1, none⟩ y).setCell ⟨K, 2, none⟩ z) := by
 subst h1 h2 h3 h4
 exact ⟨none, 0, none, 0, rfl, RowF.nil _ _ _ _ _, RowF.nil _ _ _ _ _, ((Same.of_below (M := [K]) hb).trans (same_set3 W K x y z) (fun x hx => .inl hx)).below_of (fun k hk => by simp at hk; omega)⟩
set_option maxHeartbeats 8000000 in
set_option maxRecDepth 100000 in
theorem rparse_cut (s : ByteArray) (w : World) (hT : Tabs w) (hs : s.size ≤ 9223372036854775806) (h0 : (cutB s).2.1 ≠ 0) : Calls Tryz.prog 9 #[.string s] w (RecPost (zRec, (cutB s).2.1, (cutB s).2.2) w) := by
 obtain ⟨w1, hw1⟩ : ∃ w1, w.alloc (.cells #[.string ⟨#[]⟩, .slice none 0 0, .slice none 0 0] 26 (0, 0)) = w1 := ⟨_, rfl⟩
 have hb1 : Below w.heap.size w w1 := hw1 ▸ (Below.refl _ _).alloc (Nat.le_refl _) _
 have hz1 : w1.heap[w.heap.size]? = some (.cells #[.string ⟨#[]⟩, .slice none 0 0, .slice none 0 0] 26 (0, 0)) := hw1 ▸ heap_alloc_new _ _
 have HCUT := Lib.hid (cut_any s w1 (hT.below hb1) hs)
 obtain ⟨K, hK⟩ : ∃ g, w.heap.size = g := ⟨_, rfl⟩
 obtain ⟨⟨tk, ce, ca⟩, hc⟩ : ∃ c, cutB s = c := ⟨_, rfl⟩
 rw [hc] at h0 ⊢
 have HC := Lib.hid hc
 have HK := Lib.hid hK
 rw [hK] at hz1
 have H1 := Lib.hid (⟨hb1, hz1⟩ : _ ∧ _)
 have HW1 := Lib.hid hw1
 have hk1 : K < w1.heap.size := blk_lt hz1
 have h0b : (ce != 0) = true := bne_iff_ne.2 h0
 clear hb1 hz1 hw1 hK hc hT h0
 go_enter Tryz.func9, Tryz.ntmps9
 go_wp2_with (rw [HW1.out, HK.out]; refine HCUT.out.mono ?_; unfold CutPost; rw [HC.out]; rintro r w2 ⟨A, c, rfl, hlc, hrow, hb2⟩; obtain ⟨⟨z0, z1, z2⟩, f0, f1, f2⟩ := blk3' ((hb2.block _ hk1).trans H1.out.2); have H2 := Lib.hid hb2; clear hlc hrow hb2)
 refine bodyPost_ret (v := .tuple #[.agg #[.string ⟨#[]⟩, .slice none 0 0, .slice none 0 0], .int .i64 ce, .int .i64 ca]) (by simp [results, Tryz.results9, go_sem, *]) rfl ?_
 exact rec_bad HK.out (H1.out.1.trans (H2.out.mono H1.out.1.size)) _ _ _ rfl rfl rfl rfl
set_option maxHeartbeats 8000000 in
set_option maxRecDepth 100000 in
theorem rparse_read (s : ByteArray) (w : World) (hT : Tabs w) (hs : s.size ≤ 9223372036854775806) (h0 : (cutB s).2.1 = 0) : Calls Tryz.prog 9 #[.string s] w (RecPost (recP s) w) := by
 obtain ⟨w1, hw1⟩ : ∃ w1, w.alloc (.cells #[.string ⟨#[]⟩, .slice none 0 0, .slice none 0 0] 26 (0, 0)) = w1 := ⟨_, rfl⟩
 have hb1 : Below w.heap.size w w1 := hw1 ▸ (Below.refl _ _).alloc (Nat.le_refl _) _
 have hz1 : w1.heap[w.heap.size]? = some (.cells #[.string ⟨#[]⟩, .slice none 0 0, .slice none 0 0] 26 (0, 0)) := hw1 ▸ heap_alloc_new _ _
 have HCUT := Lib.hid (cut_any s w1 (hT.below hb1) hs)
 have T0 := toks_of h0
 obtain ⟨ANS, hANS⟩ : ∃ x, recP s = x := ⟨_, rfl⟩
 rw [hANS]
 unfold recP at hANS
 simp only at hANS
 obtain ⟨K, hK⟩ : ∃ g, w.heap.size = g := ⟨_, rfl⟩
 obtain ⟨⟨l, ce, ca⟩, hc⟩ : ∃ c, cutB s = c := ⟨_, rfl⟩
 rw [hc] at h0 T0 hANS
 simp only at h0 T0 hANS
 subst h0
 rw [if_neg (by decide)] at hANS
 have T : Toks l := T0
 clear T0
 obtain ⟨s4, h4⟩ : ∃ x, rMust l wRecipe ⟨0, 0, 1⟩ = x := ⟨_, rfl⟩
 have hin0 : InR l ⟨0, 0, 1⟩ := ⟨by show (0 : Int) ≤ 0; omega, by show (0 : Int) < _; have := T.fin.1; omega, by show (0 : Int) ≤ 1; omega, by show (1 : Int) ≤ 27; omega, fun _ => by show (1 : Int) ≤ 24; omega⟩
 have hon4 := rMust_on T.fin wRecipe (by decide) hin0
 rw [h4] at hon4
 obtain ⟨⟨nm, s5⟩, h5⟩ : ∃ x, rName l [] s4 = x := ⟨_, rfl⟩
 have hon5 := hon4.trans (rName_on T.fin [] hon4.1)
 rw [h5] at hon5
 obtain ⟨⟨ps, s7⟩, h7⟩ : ∃ x, prmF l 6 [] s5 = x := ⟨_, rfl⟩
 have hon7 := hon5.trans (prmF_on T.fin 6 [] s5 hon5.1)
 simp only [h7] at hon7
 obtain ⟨⟨ks, s8⟩, h8⟩ : ∃ x, blockP l (nodeF l 30) s7 = x := ⟨_, rfl⟩
 have hm7 : (25 : Int) - (30 : Nat) ≤ s7.nodes := by have := hon7.2; simp only at this; omega
 have hno := nodeF_on T.fin T.take 30
 have hon8 := blockP_on T.fin hno hon7.1 hm7
 have hcnt := blockP_cnt T.fin hno (nodeF_cnt T.fin T.take 30) hon7.1 hm7
 rw [h8] at hon8 hcnt
 simp only at hon8 hcnt
 obtain ⟨s9, h9⟩ : ∃ x, (if s8.bad = 0 ∧ (tokAt l s8.at_).kind ≠ 0 then rFail 11 s8 else s8) = x := ⟨_, rfl⟩
 have hrd : readP l = (nm, ps, ks, s9) := by
  unfold readP
  simp only [h4, h5, h7, h8, h9]
 rw [hrd] at hANS
 simp only at hANS
 have hon9 : InR l s9 := by
  rw [← h9]
  split
  ·exact (rFail_on 11 (by decide) hon8.1).1
  ·exact hon8.1
 have hz9 : s9.bad = 0 → 1 + cPs ks ≤ 1000 := fun hz => by
  have h8z : s8.bad = 0 := by
   rw [← h9] at hz
   split at hz
   ·exact absurd hz (rFail_bad (by decide) _)
   ·exact hz
  have h1 := (hcnt h8z).2
  have h2 := hon8.1.2.2.2.1
  have h3 := hon7.2
  simp only at h3
  omega
 have HS := Lib.hid (⟨h4, h5, h7, hin0, hon4.1, hon5.1, hon7.1, hon8.1, h9, hon9, hz9⟩ : _ ∧ _ ∧ _ ∧ _ ∧ _ ∧ _ ∧ _ ∧ _ ∧ _ ∧ _ ∧ _)
 have HBL := Lib.hid (fun (g : Nat) (A : Option Addr) (c : Nat) W (hr : Rdr l g A c W s7) => block_any T (nodes_any (g := g) (A := A) (c := c) T 30) hno hr hm7)
 rw [h8] at HBL
 have HANS := Lib.hid hANS
 have HC := Lib.hid hc
 have HK := Lib.hid hK
 rw [hK] at hz1
 have H1 := Lib.hid (⟨hb1, hz1⟩ : _ ∧ _)
 have HW1 := Lib.hid hw1
 have hk1 : K < w1.heap.size := blk_lt hz1
 clear hb1 hz1 hw1 hK hc hT hANS h4 h5 h7 h8 h9 hin0 hon4 hon5 hon7 hon8 hon9 hz9 hcnt hno hm7 hrd
 go_enter Tryz.func9, Tryz.ntmps9
 go_wp2_with fail
 rw [HW1.out, HK.out]
 refine HCUT.out.mono ?_
 unfold CutPost
 rw [HC.out]
 rintro r w2 ⟨A, c, rfl, hlc, hrow, hb2⟩
 simp only at hlc hrow
 go_upto_region 5 with fail
 obtain ⟨g, hg⟩ : ∃ g, w2.heap.size = g := ⟨_, rfl⟩
 obtain ⟨w3, hw3⟩ : ∃ w', w2.alloc (.cells #[.slice A l.length c, .int .i64 0, .int .i64 0, .int .i64 1] 51 (0, 0)) = w' := ⟨_, rfl⟩
 have hb3 : Below w2.heap.size w2 w3 := hw3 ▸ (Below.refl _ _).alloc (Nat.le_refl _) _
 have hk3 : RdP w3 g A l.length c ⟨0, 0, 1⟩ := by unfold RdP; rw [← hg, ← hw3]; exact heap_alloc_new _ _
 rw [hw3, hg]
 have hrow3 : tokK.Row [g] w3 A l := ((hrow [] (fun k hk => by simp at hk)).less (fun k hk => by simp at hk; exact .inr (by omega))).keep (Same.of_below hb3)
 have hN3 : NdW l g A c w3 w3 ⟨0, 0, 1⟩ := ⟨⟨hk3, hrow3, hlc, HS.out.2.2.2.1⟩, Same.refl _ _, blk_lt hk3, hrow3⟩
 have HN3 := Lib.hid hN3
 have hkg : K < g := by have := hb2.size; omega
 have hz3 := (hb3.block K (by have := hb2.size; omega)).trans ((hb2.block K hk1).trans H1.out.2)
 have HW3 := Lib.hid (⟨H1.out.1.trans ((hb2.trans (hb3.mono hb2.size)).mono H1.out.1.size), hz3⟩ : Below w.heap.size w w3 ∧ _)
 clear hb3 hk3 hw3 hg hrow3 hN3 hz3 hlc hrow hb2
 go_wp2_with fail
 refine (must_any T HN3.out.rdr wRecipe (by decide)).mono ?_
 rw [HS.out.1]
 rintro e w4 ⟨rfl, hr4, hs4⟩
 have HN4 := Lib.hid (HN3.out.step hs4 hr4 HS.out.2.2.2.2.1)
 clear hr4 hs4
 go_wp2_with fail
 refine (rname_any T HN4.out.rdr (cc := 0) (StrR.nil w4 none)).mono ?_
 rw [HS.out.2.1]
 rintro e w5 ⟨rfl, hr5, hs5⟩
 have HN5 := Lib.hid (HN4.out.step hs5 hr5 HS.out.2.2.2.2.2.1)
 clear hr5 hs5
 go_upto_region 7 with fail
 obtain ⟨O, hO⟩ : ∃ O, w5.heap.size = O := ⟨_, rfl⟩
 obtain ⟨w6, hw6⟩ : ∃ w', w5.alloc (.cells #[.string nm, .slice none 0 0, .slice none 0 0] 26 (0, 0)) = w' := ⟨_, rfl⟩
 have hb6 : Below w5.heap.size w5 w6 := hw6 ▸ (Below.refl _ _).alloc (Nat.le_refl _) _
 have hk6 : w6.heap[O]? = some (.cells #[.string nm, .slice none 0 0, .slice none 0 0] 26 (0, 0)) := by rw [← hO, ← hw6]; exact heap_alloc_new _ _
 rw [hw6, hO]
 have HN6 := Lib.hid (HN5.out.below hb6)
 have hgO : w3.heap.size ≤ O := by rw [← hO]; exact HN5.out.same.size
 have hg3 := HN3.out.lt
 have HK6 := Lib.hid hk6
 have hl6 : O < w6.heap.size := blk_lt hk6
 clear hb6 hw6 hO hk6
 go_wp2_with fail
 refine (params_any T HN6.out.rdr).mono ?_
 rw [HS.out.2.2.1]
 rintro e w7 ⟨pA, pc, rfl, hp7, hr7, hs7⟩
 simp only at hp7
 have HN7 := Lib.hid (HN6.out.step hs7 hr7 HS.out.2.2.2.2.2.2.1)
 have hk7 := hs7.heap (k := O) (by simp; omega) HK6.out
 obtain ⟨⟨k0, k1, k2⟩, f0, f1, f2⟩ := blk3' hk7
 have hs8 : Same [O] w7 (w7.setCell ⟨O, 1, none⟩ (.slice pA ps.length pc)) := (Same.refl [O] w7).setCell (.inl (by simp)) _
 have HN8 := Lib.hid (HN7.out.put hs8 hgO)
 have HK8 : Hid ((w7.setCell ⟨O, 1, none⟩ (.slice pA ps.length pc)).heap[O]? = some (.cells #[.string nm, .slice pA ps.length pc, .slice none 0 0] 26 (0, 0))) := Lib.hid (blk_set hk7 1 _)
 have HP8 : Hid (RowF prmK (fun k => k < w3.heap.size ∨ k = O) (w7.setCell ⟨O, 1, none⟩ (.slice pA ps.length pc)) pA pc ps) := Lib.hid ((hp7.keep hs8 (fun k hk => by simp at hk; omega)).more (fun k hk => .inl (by have := HN6.out.same.size; omega)))
 clear hp7 hr7 hs7 hk7 hs8
 go_wp2_with fail
 refine (HBL.out g A c _ HN8.out.rdr).mono ?_
 rintro e w9 ⟨B, b, rfl, hx9, hr9, hs9⟩
 simp only at hx9
 have HN9 := Lib.hid (HN8.out.step hs9 hr9 HS.out.2.2.2.2.2.2.2.1)
 have hk9 := hs9.heap (k := O) (by simp; omega) HK8.out
 have HP9 := Lib.hid (HP8.out.keep hs9 (fun k hk => by simp at hk; exact .inl (by omega)))
 have HX9 : Hid (RowF pcK (fun k => k < w3.heap.size ∨ k = O) w9 B b ks) := Lib.hid (hx9.more (fun k hk => .inl (by have := HN8.out.same.size; have := blk_lt HK8.out; omega)))
 have HK9 := Lib.hid hk9
 clear hx9 hr9 hs9 hk9 k0 k1 k2 f0 f1 f2
 go_upto_region 9 with fail
 obtain ⟨R, hR⟩ : ∃ O, w9.heap.size = O := ⟨_, rfl⟩
 obtain ⟨w10, hw10⟩ : ∃ w', w9.alloc (.cells #[.int .i64 0, .slice none 0 0, .slice B ks.length b] 58 (0, 0)) = w' := ⟨_, rfl⟩
 have hb10 : Below w9.heap.size w9 w10 := hw10 ▸ (Below.refl _ _).alloc (Nat.le_refl _) _
 have hk10 : w10.heap[R]? = some (.cells #[.int .i64 0, .slice none 0 0, .slice B ks.length b] 58 (0, 0)) := by rw [← hR, ← hw10]; exact heap_alloc_new _ _
 rw [hw10, hR]
 have HN10 := Lib.hid (HN9.out.below hb10)
 have hOR : O < R := by rw [← hR]; exact blk_lt HK9.out
 have HO10 := Lib.hid ((hb10.block O (blk_lt HK9.out)).trans HK9.out)
 have HP10 := Lib.hid (HP9.out.below hb10)
 have HX10 := Lib.hid (HX9.out.below hb10)
 have HR10 := Lib.hid hk10
 clear hb10 hw10 hR hk10
 have HD10 : Hid (NdW l g A c w10 w10 s8) := Lib.hid ⟨HN10.out.rdr, Same.refl _ _, HN10.out.rdr.lt, HN10.out.rdr.row⟩
 obtain ⟨t, ht⟩ : ∃ t, tokAt l s8.at_ = t := ⟨_, rfl⟩
 have HT := Lib.hid ht
 go_cut [43] (fun s43 wx => s43 = .bool (s8.bad == 0 && t.kind != 0) ∧ NdW l g A c w10 wx s8)
 case first =>
  obtain ⟨q, hq⟩ : ∃ q, (t.kind != 0) = q := ⟨_, rfl⟩
  have HTK := Lib.hid (token_any' HD10.out.rdr)
  have HOK := Lib.hid (ok_any HD10.out.rdr)
  have hfd := fun W => (run_field_tok (.int .i64 t.kind) (.string t.text) (.int .i64 t.n) (.int .i64 t.at_) W).1
  rw [ht] at HTK
  clear ht
  by_cases hb : s8.bad = 0
  ·have hbb : (s8.bad == 0) = true := beq_iff_eq.2 hb
   rw [hbb] at HOK
   cases q
   all_goals
    go_wp2_with fail
    refine HOK.out.mono ?_
    rintro e w11 ⟨rfl, rfl⟩
    go_wp2_with fail
    refine HTK.out.mono ?_
    rintro e w11 ⟨rfl, hb11⟩
    go_wp2_with fail
    go_meet
    exact ⟨by rw [hbb, hq]; rfl, HD10.out.below hb11⟩
  ·have hbb : (s8.bad == 0) = false := beq_eq_false_iff_ne.2 hb
   rw [hbb] at HOK
   go_wp2_with fail
   refine HOK.out.mono ?_
   rintro e w11 ⟨rfl, rfl⟩
   go_wp2_with fail
   go_meet
   exact ⟨by rw [hbb]; rfl, HD10.out⟩
 case rest =>
  obtain ⟨rfl, hD⟩ := hcut
  have HD11 := Lib.hid hD
  obtain ⟨q, hq⟩ : ∃ q, (s8.bad == 0 && t.kind != 0) = q := ⟨_, rfl⟩
  rw [hq]
  have h9q : (if q = true then rFail 11 s8 else s8) = s9 := by
   rw [← HS.out.2.2.2.2.2.2.2.2.1, ← hq, ht]
   by_cases h1 : s8.bad = 0 ∧ t.kind ≠ 0
   ·rw [if_pos h1, if_pos (by simpa using h1)]
   ·rw [if_neg h1, if_neg (by simpa using h1)]
  have H9 := Lib.hid h9q
  clear hD hq h9q ht
  go_upto_if 43 with fail
  go_cut [] (fun wx => NdW l g A c w10 wx s9)
  case first =>
   cases q
   ·go_wp2_with fail
    go_meet
    have h : s8 = s9 := by simpa using H9.out
    exact h ▸ HD11.out
   ·go_wp2_with fail
    refine (rfail_any HD11.out.rdr 11).mono ?_
    rintro e w12 ⟨rfl, hr12, hs12⟩
    go_wp2_with fail
    go_meet
    have h : rFail 11 s8 = s9 := by simpa using H9.out
    exact HD11.out.step hs12 (h ▸ hr12) HS.out.2.2.2.2.2.2.2.2.2.1
  case rest =>
   have HD12 := Lib.hid hcut
   have HOK := Lib.hid (ok_any hcut.rdr)
   have hK10 := HN10.out.same.heap (k := K) (by simp; omega) HW3.out.2
   have hz := hcut.same.heap (k := K) (by simp; omega) hK10
   have hO := hcut.same.heap (k := O) (by simp; omega) HO10.out
   have hR := hcut.same.heap (k := R) (by simp; omega) HR10.out
   have HB := Lib.hid (⟨hz, hO, hR, hcut.same⟩ : _ ∧ _ ∧ _ ∧ _)
   have HX := Lib.hid (HX10.out.keep hcut.same (fun k hk => by simp at hk; exact .inl (by omega)))
   have HPR := Lib.hid (HP10.out.keep hcut.same (fun k hk => by simp at hk; exact .inl (by omega)))
   have hKO : K ≠ O := by omega
   clear hcut hK10 hz hO hR
   have hOl := blk_lt HB.out.2.1
   have hRl := blk_lt HB.out.2.2.1
   have hKl : K < w3.heap.size := by omega
   have HSZ := Lib.hid (Nat.le_trans HN10.out.same.size HB.out.2.2.2.size)
   by_cases hb : s9.bad = 0
   ·have hbb : (s9.bad == 0) = true := beq_iff_eq.2 hb
    have h := HANS.out
    rw [if_neg (by simpa using hb)] at h
    have HA := Lib.hid h
    rw [hbb] at HOK
    have hav : Av pcK (fun k => (k < w3.heap.size ∨ k = O) ∨ k ∈ blks (.slice none 0 0) []) _ (.row 0 [] ks) [rowV 0 none 0 0 B ks.length b] := Av.row (us := []) (uc := 0) (RowF.nil _ _ _ none 0) (HX.out.more (fun k hk => .inl (hk.elim id (fun h => by simp [blks, Value.ownBlock] at h))))
    have HNM := Lib.hid (numbered_any _ (fun k => k < w3.heap.size ∨ k = O) (fun k hk => by have := HSZ.out; rcases hk with hk | hk <;> omega) (SizeOf.sizeOf (Pc.row 0 [] ks) + 1) (.row 0 [] ks) 58 _ _ none 0 0 [] (by omega) (NodesB.nil _ _ _) hav (Nat.le_refl _) (by rw [numP_cnt, cP]; have := HS.out.2.2.2.2.2.2.2.2.2.2 hb; omega))
    obtain ⟨⟨r0, r1, r2⟩, _⟩ := blk3' HB.out.2.2.1
    clear hb hbb h hav
    go_wp2_with fail
    refine HOK.out.mono ?_
    rintro e w12 ⟨rfl, rfl⟩
    go_wp2_with fail
    refine HNM.out.mono ?_
    rintro r w13 ⟨B', b', qs', rfl, hB', hnd, hS', _⟩
    have hO13 := hS'.heap (k := O) (by simp [blks, Value.ownBlock]) HB.out.2.1
    have hK13 := hS'.heap (k := K) (by simp [blks, Value.ownBlock]) HB.out.1
    have hS0 : Same [] _ w13 := hS'.mono (fun x hx => by simp [blks, Value.ownBlock] at hx)
    have H13 := Lib.hid (⟨hB'.out (fun k hk => by have := HSZ.out; rcases hk with hk | hk <;> omega), hnd, HPR.out.keep hS0 (fun k hk => by simp at hk), hS0⟩ : _ ∧ _ ∧ _ ∧ _)
    obtain ⟨⟨o0, o1, o2⟩, f0, f1, f2⟩ := blk3' hO13
    obtain ⟨⟨z0, z1, z2⟩, e0, e1, e2⟩ := blk3' hK13
    have hs14 : Same [O] w13 (w13.setCell ⟨O, 2, none⟩ (.slice B' qs'.length b')) := (Same.refl [O] w13).setCell (.inl (by simp)) _
    have HS14 := Lib.hid hs14
    clear hB' hnd hS' hO13 hK13 hS0 hs14 r0 r1 r2
    go_wp2_with fail
    refine bodyPost_ret (v := .tuple #[.agg #[.string nm, .slice pA ps.length pc, .slice B' qs'.length b'], .int .i64 0, .int .i64 0]) (by simp [results, Tryz.results9, go_sem, *]) rfl ?_
    rw [← HA.out]
    obtain ⟨hnod, hnd, hprm, hS0⟩ := H13.out
    have hsK := same_set3 (w13.setCell ⟨O, 2, none⟩ (.slice B' qs'.length b')) K (.string nm) (.slice pA ps.length pc) (.slice B' qs'.length b')
    have hnl : qs'.map (·.nd) = numP 0 (.row 0 [] ks) := by rw [hnd]; rfl
    rw [hnl] at hnod
    have hql : qs'.length = (numP 0 (.row 0 [] ks)).length := by rw [← hnl, List.length_map]
    have hw0 := H1.out.1.size
    have hw3 := HW3.out.1.size
    refine ⟨pA, pc, B', b', by rw [hql], ((hprm.keep HS14.out (fun k hk => by simp at hk; exact .inr hk)).keep hsK (fun k hk => by simp at hk; exact .inl (by omega))).more (fun k hk => .inl (.inl (by omega))), ((hnod.keep HS14.out (fun k hk => by simp at hk; exact .inr hk)).keep hsK (fun k hk => by simp at hk; exact .inl (by omega))).more (fun k hk => .inl (.inl (by omega))), ?_⟩
    have hKw := HK.out
    exact (((((Same.of_below (M := [g, O, K]) HW3.out.1).trans HN10.out.same (fun x hx => by simp at hx; simp [hx])).trans HB.out.2.2.2 (fun x hx => by simp at hx; simp [hx])).trans hS0 (fun x hx => by simp at hx)).trans HS14.out (fun x hx => by simp at hx; simp [hx])).trans hsK (fun x hx => by simp at hx; simp [hx]) |>.below_of (fun k hk => by simp at hk; omega)
   ·have hbb : (s9.bad == 0) = false := beq_eq_false_iff_ne.2 hb
    have h := HANS.out
    rw [if_pos (by simpa using hb)] at h
    have HA := Lib.hid h
    rw [hbb] at HOK
    obtain ⟨t9, ht9⟩ : ∃ t, tokAt l s9.at_ = t := ⟨_, rfl⟩
    have HT9 := Lib.hid ht9
    have HTK := Lib.hid (fun W (hbW : Below _ _ W) => token_any' (HD12.out.rdr.step hbW))
    rw [ht9] at HTK
    have hfd := fun W => (run_field_tok (.int .i64 t9.kind) (.string t9.text) (.int .i64 t9.n) (.int .i64 t9.at_) W).2.2
    obtain ⟨⟨z0, z1, z2⟩, e0, e1, e2⟩ := blk3' HB.out.1
    obtain ⟨⟨c0, c1, c2, c3⟩, f0, f1, f2, f3⟩ := blk4 HD12.out.rdr.rd
    have hgl := HD12.out.rdr.lt
    have hKl2 := blk_lt HB.out.1
    clear hb hbb h ht9
    go_wp2_with fail
    refine HOK.out.mono ?_
    rintro e w12 ⟨rfl, rfl⟩
    go_wp2_with fail
    go_region_with (go_at_call 29; refine (HTK.out _ ?_).mono ?_; (first | exact Below.refl _ _ | exact (Below.refl _ _).drew); rintro r w13 ⟨rfl, hb13⟩; have y0 := (hb13.cell (p := ⟨K, 0, none⟩) hKl2).trans z0; have y1 := (hb13.cell (p := ⟨K, 1, none⟩) hKl2).trans z1; have y2 := (hb13.cell (p := ⟨K, 2, none⟩) hKl2).trans z2; have g0 := (hb13.frozen (p := ⟨K, 0, none⟩) hKl2).trans e0; have g1 := (hb13.frozen (p := ⟨K, 1, none⟩) hKl2).trans e1; have g2 := (hb13.frozen (p := ⟨K, 2, none⟩) hKl2).trans e2; have x2 := (hb13.cell (p := ⟨g, 2, none⟩) hgl).trans c2; have hk13 : K < w13.heap.size := Nat.lt_of_lt_of_le hKl2 hb13.size; have hg13 : g < w13.heap.size := Nat.lt_of_lt_of_le hgl hb13.size; have H13 := Lib.hid hb13; clear hb13)
    all_goals
     go_wp2
     refine bodyPost_ret (v := .tuple #[.agg #[.string ⟨#[]⟩, .slice none 0 0, .slice none 0 0], .int .i64 s9.bad, .int .i64 t9.at_]) (by simp [results, Tryz.results9, go_sem, *]) rfl ?_
     rw [← HA.out, HT9.out]
     have hw3 := HW3.out.1.size
     have hKw := HK.out
     have hbx : Below w.heap.size w _ := ((((Same.of_below (M := [g]) HW3.out.1).trans HN10.out.same (fun x hx => by simp at hx; simp [hx])).trans HB.out.2.2.2 (fun x hx => by simp at hx; simp [hx]))).below_of (fun k hk => by simp at hk; omega)
     have hb14 : Below w.heap.size w w13 := by first | exact hbx.trans (H13.out.mono hbx.size) | exact hbx.drew.trans (H13.out.mono hbx.size)
     exact rec_bad HK.out hb14 _ _ _ rfl rfl rfl rfl
theorem rparse_any (s : ByteArray) (w : World) (hT : Tabs w) (hs : s.size ≤ 9223372036854775806) : Calls Tryz.prog 9 #[.string s] w (RecPost (recP s) w) := by
 by_cases h : (cutB s).2.1 = 0
 ·exact rparse_read s w hT hs h
 ·have e : recP s = (zRec, (cutB s).2.1, (cutB s).2.2) := by unfold recP; rw [if_pos h]
  rw [e]
  exact rparse_cut s w hT hs h
end Go.Proofs.YtgcfjkfipkfijaaGreatDoor
