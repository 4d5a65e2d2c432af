/- Walks: the reader's small methods. -/
import Derived.Test.YtgcfjkfipkfijaaGreatDoorPure5
import Derived.Test.YtgcfjkfipkfijaaGreatDoorE3
import Derived.ChangeAlike
import Derived.RegionTactic
namespace Go.Proofs.YtgcfjkfipkfijaaGreatDoor
open Go Go.RowKit Go.Lib

/-- A reader in memory. -/
def RdB (w : World) (g : Nat) (A : Option Addr) (n c : Nat) (first : Int) (s : St) : Prop :=
  w.heap[g]? = some (.cells #[.slice A n c, .int .i64 first, .int .i64 s.at_, .int .i64 s.bad] 161 (0, 0))
theorem RdB.same {w w' : World} {g : Nat} {A : Option Addr} {n c : Nat} {first : Int} {s : St} (h : RdB w g A n c first s) (hb : Below w.heap.size w w') : RdB w' g A n c first s := (hb.block g (blk_lt h)).trans h
abbrev tokV (t : Tok) : Value := .agg #[.int .i64 t.kind, .string t.text, .int .i64 t.n, .int .i64 t.at_]
theorem tok_some {M : List Nat} {w : World} {ad : Addr} {ks : List Tok} (h : tokK.Row M w (some ad) ks) (k : Nat) (hk : k < ks.length) :
    w.cell? (ad.add (k * 4)) = some (.int .i64 ks[k].kind) ∧ w.cell? ⟨(ad.add (k * 4)).block, (ad.add (k * 4)).off + 1, none⟩ = some (.string ks[k].text) ∧
      w.cell? ⟨(ad.add (k * 4)).block, (ad.add (k * 4)).off + 2, none⟩ = some (.int .i64 ks[k].n) ∧ w.cell? ⟨(ad.add (k * 4)).block, (ad.add (k * 4)).off + 3, none⟩ = some (.int .i64 ks[k].at_) := by
  obtain ⟨ad', e, h0, h1, h2, h3, _⟩ := tok_at h k hk
  injection e with e
  subst e
  exact ⟨h0, h1, h2, h3⟩
set_option maxHeartbeats 2000000 in
theorem rtoken_any (l : List Tok) (g : Nat) (A : Option Addr) (c : Nat) (first : Int) (s : St) (w : World) (hb : RdB w g A l.length c first s) (hr : tokK.Row [g] w A l) (hlc : l.length ≤ c) :
    Calls Tryz.prog 162 #[.pointer (some ⟨g, 0, none⟩)] w fun r w' => r = .returned (tokV (tokAt l s.at_)) ∧ Below w.heap.size w w' := by
  obtain ⟨at_, bad⟩ := s
  have hc0 : w.cell? ⟨g, 0, none⟩ = some (.slice A l.length c) := (blk_cell hb 0).trans rfl
  have hc2 : w.cell? ⟨g, 2, none⟩ = some (.int .i64 at_) := (blk_cell hb 2).trans rfl
  have hg := blk_lt hb
  have HR := Lib.hid hr
  have hm := hr.1
  clear hr hb
  by_cases h1 : at_ < 0
  · have HX : Hid (tokAt l at_ = zTok) := by unfold tokAt; rw [if_pos (.inl h1)]; exact rfl
    have h1b : decide (at_ < 0) = true := decide_eq_true h1
    go_enter Tryz.func162, Tryz.ntmps162
    go_wp2_with fail
    go_quiet (fail)
    go_wp2_with fail
    refine bodyPost_ret (v := .agg #[.int .i64 0, .string ⟨#[]⟩, .int .i64 0, .int .i64 0]) (by simp [results, Tryz.results162, go_sem]) rfl ⟨by rw [HX.out]; rfl, ?_⟩
    exact below_set4' (below_drewN ((Below.refl _ _).alloc (Nat.le_refl _) _) _) (Nat.le_refl _) _ _ _ _
  · by_cases h2 : (l.length : Int) ≤ at_
    · have HX : Hid (tokAt l at_ = zTok) := by unfold tokAt; rw [if_pos (.inr h2)]; exact rfl
      have h1b : decide (at_ < 0) = false := decide_eq_false h1
      have h2b : decide ((l.length : Int) ≤ at_) = true := decide_eq_true h2
      go_enter Tryz.func162, Tryz.ntmps162
      go_wp2_with fail
      go_quiet (fail)
      go_wp2_with fail
      refine bodyPost_ret (v := .agg #[.int .i64 0, .string ⟨#[]⟩, .int .i64 0, .int .i64 0]) (by simp [results, Tryz.results162, go_sem]) rfl ⟨by rw [HX.out]; rfl, ?_⟩
      exact below_set4' (below_drewN ((Below.refl _ _).alloc (Nat.le_refl _) _) _) (Nat.le_refl _) _ _ _ _
    · obtain ⟨k, rfl⟩ := Int.eq_ofNat_of_zero_le (show 0 ≤ at_ by omega)
      have hk : k < l.length := by omega
      obtain ⟨ad, rfl⟩ := row_some0 HR.out (by omega)
      obtain ⟨x0, x1, x2, x3⟩ := tok_some HR.out k hk
      have hlt := World.block_lt_of_cell? w _ x0
      have HX : Hid (tokAt l (k : Int) = l[k]) := by
        unfold tokAt
        rw [if_neg (by omega), Int.toNat_natCast, List.getD_eq_getElem?_getD, List.getElem?_eq_getElem hk]
        exact rfl
      have h1b : decide ((k : Int) < 0) = false := decide_eq_false h1
      have h2b : decide (l.length ≤ k) = false := decide_eq_false (by omega)
      have h2c : decide ((l.length : Int) ≤ (k : Int)) = false := decide_eq_false h2
      have hkz : (k : Int) < l.length := by omega
      have hk0 : (0 : Int) ≤ k := by omega
      have hlcz : (l.length : Int) ≤ c := by omega
      clear h1 h2
      go_enter Tryz.func162, Tryz.ntmps162
      go_wp2_with fail
      go_quiet (fail)
      go_wp2_with fail
      obtain ⟨w1, hw1⟩ : ∃ w1, (w.alloc (.cells #[.int .i64 0, .string ⟨#[]⟩, .int .i64 0, .int .i64 0] 60 (0, 0))).drewN nq = w1 := ⟨_, rfl⟩
      have hb1 : Below w.heap.size w w1 := hw1 ▸ below_drewN ((Below.refl _ _).alloc (Nat.le_refl _) _) _
      have hbb : w1.heap[w.heap.size]? = some (.cells #[.int .i64 0, .string ⟨#[]⟩, .int .i64 0, .int .i64 0] 60 (0, 0)) := by
        rw [← hw1]; exact heap_alloc_new _ _
      rw [hw1]
      have q0 := (hb1.cell hg).trans hc0
      have q2 := (hb1.cell hg).trans hc2
      have y0 := (hb1.cell hlt).trans x0
      have y1 := (hb1.cell (World.block_lt_of_cell? w _ x1)).trans x1
      have y2 := (hb1.cell (World.block_lt_of_cell? w _ x2)).trans x2
      have y3 := (hb1.cell (World.block_lt_of_cell? w _ x3)).trans x3
      have z0 := blk_cell hbb 0
      have z1 := blk_cell hbb 1
      have z2 := blk_cell hbb 2
      have z3 := blk_cell hbb 3
      have f0 := blk_frozen hbb 0
      have f1 := blk_frozen hbb 1
      have f2 := blk_frozen hbb 2
      have f3 := blk_frozen hbb 3
      simp only [List.getElem?_toArray, List.getElem?_cons_zero, List.getElem?_cons_succ] at z0 z1 z2 z3
      have HB := Lib.hid hb1
      clear hb1 hbb hw1
      go_region_with (fail)
      all_goals
        go_wp2
        refine bodyPost_ret (v := tokV l[k]) (by simp [results, Tryz.results162, go_sem, *]) rfl ⟨by rw [HX.out], ?_⟩
        exact Below.drew (below_set4' HB.out (Nat.le_refl _) _ _ _ _)
theorem fail_any (g : Nat) (A : Option Addr) (n c : Nat) (first : Int) (s : St) (w : World) (hb : RdB w g A n c first s) (x : Int) :
    Calls Tryz.prog 163 #[.pointer (some ⟨g, 0, none⟩), .int .i64 x] w fun r w' => r = .returned (exV zEx none 0) ∧ RdB w' g A n c first (failP x s) ∧ Same [g] w w' := by
  obtain ⟨at_, bad⟩ := s
  have hc3 : w.cell? ⟨g, 3, none⟩ = some (.int .i64 bad) := (blk_cell hb 3).trans rfl
  have hf3 := blk_frozen hb 3
  have hg := blk_lt hb
  have HB := Lib.hid hb
  clear hb
  by_cases h0 : bad = 0
  · have hbt : (bad == 0) = true := beq_iff_eq.2 h0
    have HP : Hid (failP x ⟨at_, bad⟩ = ⟨at_, x⟩) := by unfold failP; rw [if_pos h0]; exact rfl
    go_enter Tryz.func163, Tryz.ntmps163
    go_wp2_with fail
    refine bodyPost_ret (v := exV zEx none 0) (by simp [results, Tryz.results163, go_sem, *] <;> exact ⟨rfl, rfl, rfl, rfl⟩) rfl ⟨rfl, ?_, ?_⟩
    · rw [HP.out]
      exact (((Below.refl _ _).alloc (Nat.le_refl _) _).block g (by simpa using hg)).trans (blk_set HB.out 3 _)
    · exact (Same.setCell (Same.refl _ _) (.inl (by simp)) _).alloc _
  · have hbt : (bad == 0) = false := beq_eq_false_iff_ne.2 h0
    have HP : Hid (failP x ⟨at_, bad⟩ = ⟨at_, bad⟩) := by unfold failP; rw [if_neg h0]; exact rfl
    go_enter Tryz.func163, Tryz.ntmps163
    go_wp2_with fail
    refine bodyPost_ret (v := exV zEx none 0) (by simp [results, Tryz.results163, go_sem, *] <;> exact ⟨rfl, rfl, rfl, rfl⟩) rfl ⟨rfl, ?_, ?_⟩
    · rw [HP.out]
      exact (((Below.refl _ _).alloc (Nat.le_refl _) _).block g hg).trans HB.out
    · exact (Same.refl _ _).alloc _
theorem rpass_any (g : Nat) (A : Option Addr) (n c : Nat) (first : Int) (s : St) (w : World) (hb : RdB w g A n c first s) (h1 : first ≤ s.at_) (h2 : s.at_ ≤ first + 64) (h3 : s.at_ < 9223372036854775807) (h4 : -9223372036854775808 ≤ first) :
    Calls Tryz.prog 148 #[.pointer (some ⟨g, 0, none⟩)] w fun r w' => r = .returned (.bool (passP first s).1) ∧ RdB w' g A n c first (passP first s).2 ∧ Same [g] w w' := by
  obtain ⟨at_, bad⟩ := s
  have hc1 : w.cell? ⟨g, 1, none⟩ = some (.int .i64 first) := (blk_cell hb 1).trans rfl
  have hc2 : w.cell? ⟨g, 2, none⟩ = some (.int .i64 at_) := (blk_cell hb 2).trans rfl
  have hf2 := blk_frozen hb 2
  have hg := blk_lt hb
  simp only at h1 h2 h3
  have HB := Lib.hid hb
  clear hb
  have hsub : IntKind.i64.wrap (at_ - first) = at_ - first := IntWalk.i64_in _ (by omega)
  have hadd : IntKind.i64.wrap (at_ + 1) = at_ + 1 := IntWalk.i64_in _ (by omega)
  by_cases h0 : 64 ≤ at_ - first
  · have hbt : decide (64 ≤ at_ - first) = true := decide_eq_true h0
    have HP : Hid (passP first ⟨at_, bad⟩ = (false, failP 2 ⟨at_, bad⟩)) := by unfold passP; rw [if_pos h0]; exact rfl
    go_enter Tryz.func148, Tryz.ntmps148
    go_wp2_with fail
    go_quiet (fail)
    go_wp2_with fail
    refine (fail_any g A n c first ⟨at_, bad⟩ _ (HB.out.same (below_drewN (Below.refl _ _) _)) 2).mono ?_
    rintro e w2 ⟨rfl, hb2, hs2⟩
    go_wp2_with fail
    refine bodyPost_ret (v := .bool false) (by simp [results, Tryz.results148, go_sem, *]) rfl ⟨by rw [HP.out], ?_, ?_⟩
    · rw [HP.out]; exact hb2
    · exact ((Same.refl [g] w).drewN nq).trans hs2 (fun _ h => .inl h)
  · have hbt : decide (64 ≤ at_ - first) = false := decide_eq_false h0
    have HP : Hid (passP first ⟨at_, bad⟩ = (true, ⟨at_ + 1, bad⟩)) := by unfold passP; rw [if_neg h0]; exact rfl
    go_enter Tryz.func148, Tryz.ntmps148
    go_wp2_with fail
    go_quiet (fail)
    go_wp2_with fail
    refine bodyPost_ret (v := .bool true) (by simp [results, Tryz.results148, go_sem, *]) rfl ⟨by rw [HP.out], ?_, ?_⟩
    · rw [HP.out]; exact blk_set (HB.out.same (below_drewN (Below.refl _ _) _)) 2 _
    · exact Same.setCell ((Same.refl [g] w).drewN nq) (.inl (by simp)) _
end Go.Proofs.YtgcfjkfipkfijaaGreatDoor
