/- A walk: Cut. -/
import Derived.Test.YtgcfjkfipkfijaaGreatDoorC4
import Derived.Test.YtgcfjkfipkfijaaGreatDoorOwn
import Derived.Test.YtgcfjkfipkfijaaGreatDoorTokB
import Derived.Deep.DrawnRows
import Derived.ChangeAlike
import Derived.RegionTactic
import Derived.Deep.DeepCutAuto
import Derived.Deep.CutBlock
namespace Go.Proofs.YtgcfjkfipkfijaaGreatDoor
open Go Go.RowKit Go.Lib
attribute [local go_sem ↓] Go.wp_at_zero Go.wp_at_succ

theorem cutG_step {f : Nat} {l : List UInt8} {a : Int} {out : List Tok} (hl : l ≠ []) (ho : out.length ≠ 2000) (he : (tokF l).2.2 = 0) :
    cutG (f + 1) l a out = cutG f (skip (l.drop (tokF l).2.1.toNat) (a + (runes (l.take (tokF l).2.1.toNat)).length)).1 (skip (l.drop (tokF l).2.1.toNat) (a + (runes (l.take (tokF l).2.1.toNat)).length)).2 (out ++ [{ (tokF l).1 with at_ := a }]) := by
  simp only [cutG, if_neg hl, if_neg ho, he, ne_eq, not_true_eq_false, if_false]
theorem cutG_bad {f : Nat} {l : List UInt8} {a : Int} {out : List Tok} (hl : l ≠ []) (ho : out.length ≠ 2000) (he : (tokF l).2.2 ≠ 0) : cutG (f + 1) l a out = ([], (tokF l).2.2, a) := by
  simp only [cutG, if_neg hl, if_neg ho]; rw [if_pos he]
theorem cutG_many {f : Nat} {l : List UInt8} {a : Int} {out : List Tok} (hl : l ≠ []) (ho : out.length = 2000) : cutG (f + 1) l a out = ([], 2, a) := by
  simp only [cutG, if_neg hl, if_pos ho]; rw [if_pos (by decide)]
theorem cutG_end {f : Nat} {a : Int} {out : List Tok} : cutG (f + 1) [] a out = (out ++ [⟨0, ⟨#[]⟩, 0, a⟩], 0, 0) := by
  simp only [cutG, if_true]
theorem info52 : (Tryz.prog.info? 60).map (fun i => (i.zero, i.size, i.bytes)) = some (some (.agg #[.int .i64 0, .string ⟨#[]⟩, .int .i64 0, .int .i64 0]), 4, 40) := by kernel_rfl
/-- What Cut hands back. -/
def CutPost (s : ByteArray) (w : World) (e : Ending) (w' : World) : Prop :=
  ∃ A c, e = .returned (.tuple #[.slice A (cutB s).1.length c, .int .i64 (cutB s).2.1, .int .i64 (cutB s).2.2]) ∧ (cutB s).1.length ≤ c ∧ (∀ M : List Nat, (∀ k, k ∈ M → k < w.heap.size) → tokK.Row M w' A (cutB s).1) ∧ Below w.heap.size w w'
theorem cutPost_bad {s : ByteArray} {w w' : World} {er at_ : Int} (h : cutB s = ([], er, at_)) (hb : Below w.heap.size w w') : CutPost s w (.returned (.tuple #[.slice none 0 0, .int .i64 er, .int .i64 at_])) w' := by
  unfold CutPost
  rw [h]
  exact ⟨none, 0, rfl, Nat.le_refl _, fun M _ => Kind.Row.nil _ _ _ _, hb⟩
theorem cutPost_ok {s : ByteArray} {w w' : World} {out : List Tok} {v : Value} {base : Nat} (h : cutB s = (out, 0, 0)) (ho : w'.ownsRow base 60 4 v out.length (out.flatMap tokE)) (hbase : w.heap.size ≤ base) (hb : Below w.heap.size w w') :
    CutPost s w (.returned (.tuple #[v, .int .i64 0, .int .i64 0])) w' := by
  unfold CutPost
  rw [h]
  obtain ⟨A, c, rfl, hc, hr⟩ := row_of_own (d := tokK) tokE_len ho (M := []) (fun k hk => by simp at hk) (fun x _ => tokE_rep _ _ x)
  refine ⟨A, c, rfl, hc, fun M hM => ?_, hb⟩
  obtain ⟨A', c', he, _, hr'⟩ := row_of_own (d := tokK) tokE_len ho (M := M) (fun k hk => Nat.lt_of_lt_of_le (hM k hk) hbase) (fun x _ => tokE_rep _ _ x)
  injection he with he1 _ _
  rw [he1]
  exact hr'
set_option maxHeartbeats 4000000 in
set_option maxRecDepth 100000 in
theorem cut_any (s : ByteArray) (w : World) (hT : Tabs w) (hs : s.size ≤ 9223372036854775806) : Calls Tryz.prog 23 #[.string s] w (CutPost s w) := by
  by_cases h1 : 8192 < s.size
  · have hz : (8192 : Int) < s.size := by omega
    have HX : Hid (cutB s = ([], 2, 0)) := by unfold cutB; rw [if_pos h1]; exact rfl
    clear h1
    go_enter Tryz.func23, Tryz.ntmps23
    go_wp2_with fail
    refine bodyPost_ret (results_tmp3 rfl _ _ _) rfl ?_
    exact cutPost_bad HX.out (Below.refl _ _)
  have hz : (s.size : Int) ≤ 8192 := by omega
  have HBAD := Lib.hid (bad_any s w hs hT)
  by_cases h2 : 0 ≤ badF 0 (runes s.data.toList)
  · have HX : Hid (cutB s = ([], 10, badF 0 (runes s.data.toList))) := by unfold cutB; rw [if_neg h1, if_pos h2]; exact rfl
    clear h1 hT
    go_enter Tryz.func23, Tryz.ntmps23
    go_wp2_with fail
    refine HBAD.out.mono ?_
    rintro e w1 ⟨rfl, hb1⟩
    go_wp2_with fail
    refine bodyPost_ret (results_tmp3 rfl _ _ _) rfl ?_
    exact cutPost_bad HX.out hb1
  have h2' : badF 0 (runes s.data.toList) < 0 := by omega
  obtain ⟨ANS, hANS⟩ : ∃ ANS, cutB s = ANS := ⟨_, rfl⟩
  have HX : Hid (cutG (s.size + 1) (skip s.data.toList 0).1 (skip s.data.toList 0).2 [] = ANS) := by rw [← hANS]; unfold cutB; rw [if_neg h1, if_neg h2]; exact rfl
  have HANS := Lib.hid hANS
  have HT := Lib.hid hT
  clear h1 h2 hANS hT
  go_enter Tryz.func23, Tryz.ntmps23
  go_wp2_with fail
  refine HBAD.out.mono ?_
  rintro e w1 ⟨rfl, hb1⟩
  clear HBAD
  have hT1 := Lib.hid (HT.out.below hb1)
  have HB1 := Lib.hid hb1
  clear hb1 HT
  go_wp2_with fail
  obtain ⟨G, hG⟩ : ∃ G, w1.heap.size = G := ⟨_, rfl⟩
  obtain ⟨w2, hw2⟩ : ∃ w2, w1.alloc (.cells #[.string s, .int .i64 0, .slice none 0 0] 84) = w2 := ⟨_, rfl⟩
  have hk2 : CutB w2 G s 0 (.slice none 0 0) := by rw [← hw2, ← hG]; exact heap_alloc_new _ _
  have hb2 : Below w1.heap.size w1 w2 := by rw [← hw2]; exact (Below.refl _ _).alloc (Nat.le_refl _) _
  rw [hw2, hG]
  have HG := Lib.hid hG
  have hsz2 : G < w2.heap.size := blk_lt hk2
  have HS2 : Hid (Same [G] w1 w2) := Same.of_below hb2
  have HFIN : Hid (∀ W, Same [G] w1 W → Below w.heap.size w W) := fun W h => HB1.out.trans ((h.below_of (fun k hk => by simp at hk; omega)).mono HB1.out.size)
  clear hw2 hG hb2
  refine (blanks_any G s 0 _ w2 hk2 (by omega) (by omega) (by omega) _ rfl).mono ?_
  rintro e w3 ⟨rfl, r, a, hk3, hs3, hr3, ha3, hl1, hl2, hl3⟩
  go_wp2_with fail
  have hr0 : cutG (s.size + 1) r.data.toList a [] = ANS := by
    have h := HX.out
    unfold skip at h
    rw [size_data, ← hr3, ← ha3] at h
    exact h
  go_loopg [7, 8, 9] (s.size + 1) (fun k _ _ _ w' => ∃ (r : ByteArray) (a : Int) (A : Option Addr) (c : Nat) (out : List Tok), CutB w' G r a (.slice A out.length c) ∧
    w'.ownsRow (G + 1) 60 4 (.slice A out.length c) out.length (out.flatMap tokE) ∧ Same [G] w1 w' ∧ r.size < k ∧ out.length ≤ 2000 ∧ 0 ≤ a ∧ a + r.size ≤ s.size ∧ cutG k r.data.toList a out = ANS)
  case atStart => exact ⟨r, a, none, 0, [], hk3, ⟨rfl, .inl ⟨rfl, rfl⟩⟩, HS2.out.trans hs3 (fun x hx => .inl hx), by omega, by simp, by omega, by omega, hr0⟩
  case round =>
    clear hk2 hk3 hs3 hr3 ha3 hl1 hl2 hl3 hr0 hsz2
    obtain ⟨r, a, A, c, out, hk, hown, hS, hrk, hol, ha0, har, hans⟩ := hrel
    obtain ⟨gk, rfl⟩ : ∃ k, gk = k + 1 := ⟨gk - 1, by omega⟩
    have HK := Lib.hid hk
    have HOWN := Lib.hid hown
    have HS := Lib.hid hS
    have HA := Lib.hid hans
    have hg := blk_lt hk
    have hc0 : wr.cell? ⟨G, 0, none⟩ = some (.string r) := (blk_cell hk 0).trans rfl
    have HGT : Hid (gTop ≤ G) := by have := hT1.out.size; rw [HG.out] at this; exact this
    have HTr : Hid (Tabs wr) := hT1.out.keep hS (fun k hk => by simp at hk; subst hk; exact HGT.out)
    clear hk hown hS hans
    by_cases hp : 0 < r.size
    · have hne := nonempty_ne hp
      have hl : r.data.toList ≠ [] := by intro e; have := size_data r; rw [e] at this; simp at this; omega
      have HL := Lib.hid hl
      clear hl
      go_wp2_with fail
      refine (token_any G r a _ wr HK.out (by omega) hp HTr.out).mono ?_
      rintro e w4 ⟨⟨⟨⟨t1, t2, t3, t4⟩, tn, te⟩, htok, rfl⟩, hb4⟩
      have HTOK := Lib.hid htok
      have HK4 : Hid (CutB w4 G r a (.slice A out.length c)) := (hb4.block _ hg).trans HK.out
      have HO4 := Lib.hid (own_below HOWN.out hb4)
      have HS4 := Lib.hid (HS.out.below_ hb4)
      have hg4 := blk_lt HK4.out
      have d0 : w4.cell? ⟨G, 0, none⟩ = some (.string r) := (blk_cell HK4.out 0).trans rfl
      have d1 : w4.cell? ⟨G, 1, none⟩ = some (.int .i64 a) := (blk_cell HK4.out 1).trans rfl
      have d2 : w4.cell? ⟨G, 2, none⟩ = some (.slice A out.length c) := (blk_cell HK4.out 2).trans rfl
      clear hb4 hc0 htok
      by_cases ho : out.length = 2000
      · have HO := Lib.hid ho
        have hob : ((out.length : Int) == 2000) = true := by rw [beq_iff_eq]; omega
        clear ho
        go_wp2_with fail
        go_quiet (fail)
        go_wp2_with fail
        refine bodyPost_ret (results_tmp3 rfl _ _ _) rfl ?_
        refine cutPost_bad (by have h := HA.out; rw [cutG_many HL.out HO.out] at h; rw [HANS.out, ← h]) ?_
        exact HFIN.out _ ((HS4.out.alloc _).drewN _)
      · have hob : ((out.length : Int) == 2000) = false := by rw [beq_eq_false_iff_ne]; omega
        have HO := Lib.hid ho
        clear ho
        by_cases he : te = 0
        · subst he
          have htb := tokF_ok HL.out (by rw [← HTOK.out])
          rw [← HTOK.out, size_data] at htb
          obtain ⟨htb1, htb2⟩ := htb
          simp only at htb1 htb2
          go_wp2_with fail
          obtain ⟨w5, hw5⟩ : ∃ w5, w4.alloc (.cells #[.int .i64 t1, .string t2, .int .i64 t3, .int .i64 a] 60) = w5 := ⟨_, rfl⟩
          obtain ⟨TB, hTB⟩ : ∃ TB, w4.heap.size = TB := ⟨_, rfl⟩
          have hk5 : w5.heap[TB]? = some (.cells #[.int .i64 t1, .string t2, .int .i64 t3, .int .i64 a] 60 (0, 0)) := by rw [← hw5, ← hTB]; exact heap_alloc_new _ _
          have hb5 : Below w4.heap.size w4 w5 := by rw [← hw5]; exact (Below.refl _ _).alloc (Nat.le_refl _) _
          have HK5 : Hid (CutB w5 G r a (.slice A out.length c)) := (hb5.block _ hg4).trans HK4.out
          have HO5 := Lib.hid (own_below HO4.out hb5)
          have HS5 := Lib.hid (HS4.out.below_ hb5)
          rw [hw5, hTB]
          rw [hTB] at hg4
          have e2 : w5.cell? ⟨G, 2, none⟩ = some (.slice A out.length c) := (blk_cell HK5.out 2).trans rfl
          have f2 := blk_frozen HK5.out 2
          have q0 := (blk_cell hk5 0).trans rfl
          have q1 := (blk_cell hk5 1).trans rfl
          have q2 := (blk_cell hk5 2).trans rfl
          have q3 := (blk_cell hk5 3).trans rfl
          have hlt5 := blk_lt hk5
          have hg5 := blk_lt HK5.out
          clear hw5 hTB hk5 hb5 d0 d1 d2
          go_cut [] (fun wx => ∃ (g cap : Nat), CutB wx G r a (.slice (some ⟨g, 0, none⟩) (out.length + 1) cap) ∧
            wx.ownsRow (G + 1) 60 4 (.slice (some ⟨g, 0, none⟩) (out.length + 1) cap) (out.length + 1) (out.flatMap tokE ++ [.int .i64 t1, .string t2, .int .i64 t3, .int .i64 a]) ∧ Same [G] w1 wx)
          case first =>
            obtain ⟨i0, hi0, hz0, hz1, hz2⟩ := info_parts info52
            have hne : some G ≠ (Value.slice A out.length c).ownBlock := fun e => by have := own_block HO5.out G e.symm; omega
            have hgl : ∀ o, G < ((w5.alloc o).drew).heap.size := fun o => Nat.lt_of_lt_of_le hg5 ((Below.refl w5.heap.size w5).alloc (Nat.le_refl _) o).size
            have he2 : ∀ o, ((w5.alloc o).drew).cell? ⟨G, 2, none⟩ = some (.slice A out.length c) := fun o => (((Below.refl w5.heap.size w5).alloc (Nat.le_refl _) o).cell (p := ⟨G, 2, none⟩) hg5).trans e2
            have hf2 : ∀ o, ((w5.alloc o).drew).frozen? ⟨G, 2, none⟩ = false := fun o => (((Below.refl w5.heap.size w5).alloc (Nat.le_refl _) o).frozen (p := ⟨G, 2, none⟩) hg5).trans f2
            go_region_law
              ((refine step_append_lies _ (by rfl) _ _ _ (by rfl) (G + 1) 60 i0 _ 4 40 Tryz.underlying46 hi0 hz0 hz1 hz2 rfl (by omega) (.slice A out.length c) out.length (out.flatMap tokE) (by rfl) ((HO5.out.alloc _).drew)
                  ⟨w5.heap.size, 0, none⟩ 1 1 [.int .i64 t1, .string t2, .int .i64 t3, .int .i64 a] (by rfl) (by rfl) (World.news_of_block (cs := #[.int .i64 t1, .string t2, .int .i64 t3, .int .i64 a]) (t := 60) (fr := (0, 0)) (heap_alloc_new w5 _)) (by simp [Value.oneCell'])
                  (by omega) (by unfold maxLen; omega) (by omega) (by simp; omega) (w5.heap.size + 1) (by simp) ?_; intro g cap w6 hown6 hgrow hat hlt; have z6 := (hgrow.cell_far ⟨G, 2, none⟩ (hgl _) hne).trans (he2 _); have y6 := (hgrow.frozen_far ⟨G, 2, none⟩ (hgl _) hne).trans (hf2 _)))
            all_goals
              go_wp2_with fail
              go_meet
              have k6 := (hgrow.block G (hgl _) hne).trans ((((Below.refl w5.heap.size w5).alloc (Nat.le_refl _) _).block G hg5).trans HK5.out)
              have hgg := (own_block hown6 g rfl).1
              exact ⟨g, cap, blk_set k6 2 _, own_set hown6 (p := ⟨G, 2, none⟩) (by simp [Value.ownBlock]; omega) _,
                ((((HS5.out.alloc _).drew).grown hgrow (fun k hk => by have := (own_block HO5.out k hk).1; have := HG.out; exact .inr (by omega))).setCell (.inl (by simp)) _)⟩
          case rest =>
            obtain ⟨g, cap, hk6, hown6, hs6⟩ := hcut
            clear e2 f2 q0 q1 q2 q3 hlt5 hg5
            go_wp2_with fail
            refine (pass_any G r a _ tn _ hk6 (by omega) (by omega) (by omega) ha0 (by omega)).mono ?_
            rintro e w7 ⟨rfl, hk7, hs7⟩
            have HO7 := Lib.hid (own_same hown6 hs7 (fun k hk => by simp at hk; omega))
            have HS7 := Lib.hid (hs6.then_ hs7)
            clear hk6 hown6 hs6 hs7
            go_wp2_with fail
            have hle := runes_len (r.data.toList.take tn.toNat)
            rw [List.length_take, size_data] at hle
            have hsz7 : (r.extract tn.toNat r.size).size = r.size - tn.toNat := Lib.ext_size _ _
            refine (blanks_any G _ _ _ _ hk7 (by omega) (by omega) (by omega) _ rfl).mono ?_
            rintro e w8 ⟨rfl, r8, a8, hk8, hs8, hr8, ha8, hm1, hm2, hm3⟩
            go_wp2_with fail
            go_roundg gk
            case measure => omega
            case rel =>
              have h := HA.out
              rw [cutG_step HL.out HO.out (by rw [← HTOK.out]), ← HTOK.out] at h
              unfold skip at h
              rw [← ext_drop, size_data, ← hr8, ← ha8] at h
              have h20 := HO.out
              have hlen : (out ++ [(⟨t1, t2, t3, a⟩ : Tok)]).length = out.length + 1 := by simp
              refine ⟨r8, a8, some ⟨g, 0, none⟩, cap, out ++ [⟨t1, t2, t3, a⟩], by rw [hlen]; exact hk8, ?_, HS7.out.then_ hs8, by omega, by rw [hlen]; omega, by omega, by omega, h⟩
              rw [hlen, List.flatMap_append]
              exact own_same HO7.out hs8 (fun k hk => by simp at hk; omega)
        · have heb : (te != 0) = true := by rw [bne_iff_ne]; exact he
          have HE := Lib.hid he
          clear he
          go_wp2_with fail
          go_quiet (fail)
          go_wp2_with fail
          refine bodyPost_ret (results_tmp3 rfl _ _ _) rfl ?_
          refine cutPost_bad (by have h := HA.out; rw [cutG_bad HL.out HO.out (by rw [← HTOK.out]; exact HE.out), ← HTOK.out] at h; rw [HANS.out, ← h]) ?_
          exact HFIN.out _ ((HS4.out.alloc _).drewN _)
    · have hne := nonempty_eq hp
      have hnil : r.data.toList = [] := List.eq_nil_of_length_eq_zero (by rw [size_data]; omega)
      have h := HA.out
      rw [hnil, cutG_end] at h
      have HE := Lib.hid h
      clear h hnil
      have d1 : wr.cell? ⟨G, 1, none⟩ = some (.int .i64 a) := (blk_cell HK.out 1).trans rfl
      have d2 : wr.cell? ⟨G, 2, none⟩ = some (.slice A out.length c) := (blk_cell HK.out 2).trans rfl
      go_wp2_with fail
      obtain ⟨i0, hi0, hz0, hz1, hz2⟩ := info_parts info52
      go_region_law
        ((refine step_append_lies _ (by rfl) _ _ _ (by rfl) (G + 1) 60 i0 _ 4 40 Tryz.underlying46 hi0 hz0 hz1 hz2 rfl (by omega) (.slice A out.length c) out.length (out.flatMap tokE) (by rfl) ((HOWN.out.alloc _).drew)
            ⟨wr.heap.size, 0, none⟩ 1 1 [.int .i64 0, .string ⟨#[]⟩, .int .i64 0, .int .i64 a] (by rfl) (by rfl) (World.news_of_block (cs := #[.int .i64 0, .string ⟨#[]⟩, .int .i64 0, .int .i64 a]) (t := 60) (fr := (0, 0)) (heap_alloc_new wr _)) (by simp [Value.oneCell'])
            (by omega) (by unfold maxLen; omega) (by omega) (by simp; omega) (wr.heap.size + 1) (by simp) ?_; intro g cap w6 hown6 hgrow hat hlt))
      all_goals
        go_wp2_with fail
        refine bodyPost_ret (results_tmp3 rfl _ _ _) rfl ?_
        have hS6 := (((HS.out.alloc _).drew).grown hgrow (fun k hk => by have := (own_block HOWN.out k hk).1; have := HG.out; exact .inr (by omega)))
        have ho6 : w6.ownsRow (G + 1) 60 4 (.slice (some ⟨g, 0, none⟩) (out.length + 1) cap) (out ++ [(⟨0, ⟨#[]⟩, 0, a⟩ : Tok)]).length ((out ++ [(⟨0, ⟨#[]⟩, 0, a⟩ : Tok)]).flatMap tokE) := by
          rw [List.flatMap_append, List.length_append]
          exact hown6
        exact cutPost_ok (HANS.out.trans HE.out.symm) ho6 (by have := HB1.out.size; have := HG.out; omega) (HFIN.out _ hS6)
end Go.Proofs.YtgcfjkfipkfijaaGreatDoor
