/- Part 20 of the proof of rtexts_card; no conditions. -/
import Derived.Test.YtgcfjkfipkfijaaGreatDoorTx18
import Derived.Test.YtgcfjkfipkfijaaGreatDoorTx19
import Derived.Test.YtgcfjkfipkfijaaGreatDoorTx08
namespace Go.Proofs.YtgcfjkfipkfijaaGreatDoor
open Go Go.RowKit Go.Lib
section
variable {l : List Tok} {g c : Nat} {A : Option Addr} {s s' : RS} {w w' : World} {t t' : RT}
def XExp (g : Nat) (A : Option Addr) (n c : Nat) (p : Ex × RS) (t : RT) (w : World) (r : Ending) (w' : World) : Prop :=
 ∃ B d, r = .returned (exV p.1 B d) ∧ ExF (fun k => k < w.heap.size) w' p.1 B d ∧ XdP w' g A n c p.2 t ∧ Same [g] w w'
def Took (w1 : World) (e : Ex) (E3 : Nat) (wx : World) : Prop := ∃ B d, w1.heap.size ≤ E3 ∧ wx.heap[E3]? = some (.cells #[.int .i64 e.op, .int .i64 e.n, .string e.name, .slice B e.kids.length d] 41 (0, 0)) ∧ ExF (fun k => k < w1.heap.size) wx e B d ∧ Below w1.heap.size w1 wx
theorem took_a {w1 w5 : World} {e : Ex} {B : Option Addr} {d : Nat} (hx : ExF (fun k => k < w1.heap.size) w5 e B d) (hb : Below w1.heap.size w1 w5) : Took w1 e w5.heap.size (w5.alloc (.cells #[.int .i64 e.op, .int .i64 e.n, .string e.name, .slice B e.kids.length d] 41)) :=
 ⟨B, d, hb.size, heap_alloc_new _ _, hx.below ((Below.refl _ _).alloc (Nat.le_refl _) _), hb.alloc hb.size _⟩
theorem took_b {w1 w5 : World} {e : Ex} {B : Option Addr} {d K : Nat} (hK : w1.heap.size = K) (hx : ExF (fun k => k < w1.heap.size + 1) w5 e B d) (hb : Below w1.heap.size w1 w5) (h : w5.heap[K]? = some (.cells #[.int .i64 0, .int .i64 0, .string ⟨#[]⟩, .slice none 0 0] 41 (0, 0))) :
  Took w1 e K ((((w5.setCell ⟨K, 0, none⟩ (.int .i64 e.op)).setCell ⟨K, 1, none⟩ (.int .i64 e.n)).setCell ⟨K, 2, none⟩ (.string e.name)).setCell ⟨K, 3, none⟩ (.slice B e.kids.length d)) := by
 have hs : Same [K] w5 ((((w5.setCell ⟨K, 0, none⟩ (.int .i64 e.op)).setCell ⟨K, 1, none⟩ (.int .i64 e.n)).setCell ⟨K, 2, none⟩ (.string e.name)).setCell ⟨K, 3, none⟩ (.slice B e.kids.length d)) :=
  ((((Same.refl [K] w5).setCell (.inl (by simp)) _).setCell (.inl (by simp)) _).setCell (.inl (by simp)) _).setCell (.inl (by simp)) _
 refine ⟨B, d, by omega, ?_, (hx.keep hs (fun k hk => by simp at hk; omega)).more (fun k hk => .inl (by omega)), ((Same.of_below (M := [K]) hb).trans hs (fun x hx => .inl hx)).below_of (fun k hk => by simp at hk; omega)⟩
 have h1 := blk_set (blk_set (blk_set (blk_set h 0 (.int .i64 e.op)) 1 (.int .i64 e.n)) 2 (.string e.name)) 3 (.slice B e.kids.length d)
 exact h1
theorem exp_end {w1 wx : World} {e : Ex} {B : Option Addr} {d E : Nat} {k f : Int} {n : Nat} (hE : w.heap.size = E) (hgE : g < E) (hb : Below w.heap.size w wx) (hr : XdP wx g A n c s t) (hx : ExF (fun k => k < w1.heap.size) wx e B d) (hw : E < w1.heap.size) :
  XExp g A n c (e, ⟨k, f, s.nodes⟩) t w (.returned (exV e B d)) ((((((wx.setCell ⟨g, 1, none⟩ (.int .i64 k)).setCell ⟨g, 2, none⟩ (.int .i64 f)).setCell ⟨E, 0, none⟩ (.int .i64 e.op)).setCell ⟨E, 1, none⟩ (.int .i64 e.n)).setCell ⟨E, 2, none⟩ (.string e.name)).setCell ⟨E, 3, none⟩ (.slice B e.kids.length d)) := by
 have h1 : Same [g] wx ((wx.setCell ⟨g, 1, none⟩ (.int .i64 k)).setCell ⟨g, 2, none⟩ (.int .i64 f)) := ((Same.refl [g] wx).setCell (.inl (by simp)) _).setCell (.inl (by simp)) _
 have h2 := same_set4 ((wx.setCell ⟨g, 1, none⟩ (.int .i64 k)).setCell ⟨g, 2, none⟩ (.int .i64 f)) E (.int .i64 e.op) (.int .i64 e.n) (.string e.name) (.slice B e.kids.length d)
 have h3 := blk_set (blk_set hr 1 (.int .i64 k)) 2 (.int .i64 f)
 refine ⟨B, d, rfl, ((hx.keep h1 (fun x hx => by simp at hx; omega)).keep h2 (fun x hx => by simp at hx; omega)).more (fun x hx => .inl (by omega)), h2.heap (k := g) (by simp; omega) h3, ?_⟩
 exact ((Same.of_below (M := [g]) hb).then_ h1).trans h2 (fun x hx => .inr (by simp at hx; omega))
set_option maxHeartbeats 8000000 in
set_option maxRecDepth 100000 in
theorem yexpr_any (hl : l.length ≤ 2001) (h : Xdr l g A c w s t) : Calls Tryz.prog 94 #[.pointer (some ⟨g, 0, none⟩)] w (XExp g A l.length c (rExpr l s) t w) := by
  have hg := h.lt
  obtain ⟨E, hE⟩ : ∃ E, w.heap.size = E := ⟨_, rfl⟩
  obtain ⟨w1, hw1⟩ : ∃ w1, (w.alloc (.cells #[.int .i64 0, .int .i64 0, .string ⟨#[]⟩, .slice none 0 0] 41 (0, 0))) = w1 := ⟨_, rfl⟩
  have hb1 : Below w.heap.size w w1 := hw1 ▸ (Below.refl _ _).alloc (Nat.le_refl _) _
  have hbb : w1.heap[E]? = some (.cells #[.int .i64 0, .int .i64 0, .string ⟨#[]⟩, .slice none 0 0] 41 (0, 0)) := by rw [← hE, ← hw1]; exact heap_alloc_new _ _
  have h1 := h.step hb1
  obtain ⟨⟨q0, q1, q2, q3, q4, q5⟩, g1, g2, _⟩ := blk6 h1.rd
  have HB := Lib.hid (⟨hb1, h1, hbb⟩ : _ ∧ _ ∧ _)
  have HW1 := Lib.hid hw1
  have HE := Lib.hid hE
  have hg1 := h1.lt
  obtain ⟨⟨z0, z1, z2, z3⟩, f0, f1, f2, f3⟩ := blk4 hbb
  have hlz := blk_lt hbb
  have hgE : g < E := by omega
  by_cases hb : s.bad = 0
  · have hb0 : (s.bad == 0) = true := beq_iff_eq.2 hb
    have hbn : (s.bad != 0) = false := by rw [hb]; rfl
    obtain ⟨⟨e, f, k⟩, hp⟩ : ∃ p, takeP l s.at_ = p := ⟨_, rfl⟩
    have HR : Hid (rExpr l s = (e, ⟨k, f, s.nodes⟩)) := Lib.hid (by unfold rExpr; rw [if_neg (by simpa using hb), hp])
    have HT : Hid (∀ W, Below w1.heap.size w1 W → Calls Tryz.prog 110 #[.slice A l.length c, .int .i64 s.at_] W (TakePost W.heap.size (e, f, k) W)) := Lib.hid (fun W hW => by
      have := xtake_any l A c s.at_ W ((h1.step hW).row.2 [] (by simp)) h.row.1 (by omega)
      rwa [hp] at this)
    clear h h1 hb1 hbb hw1 hb hp hE
    go_enter Tryz.func94, Tryz.ntmps94
    go_upto_region 1 with fail
    rw [HW1.out, HE.out]
    go_upto_region 3 with fail
    go_cut [3, 4, 5] (fun s3 s4 s5 wx => ∃ E3 : Nat, s3 = .pointer (some ⟨E3, 0, none⟩) ∧ s4 = .int .i64 f ∧ s5 = .int .i64 k ∧ Took w1 e E3 wx)
    case first =>
      go_region_with (go_at_call 110; refine (HT.out _ ?_).mono ?_; (first | exact Below.refl _ _ | exact (Below.refl _ _).drew | exact ((Below.refl _ _).alloc (Nat.le_refl _) _).drew | exact (Below.refl _ _).drew.alloc (by simp) _); rintro r w5 ⟨B, d, rfl, hx5, hb5⟩; (try (have zz := (hb5.block w1.heap.size (by simp)).trans (heap_alloc_new w1 _); obtain ⟨⟨y0, y1, y2, y3⟩, fy0, fy1, fy2, fy3⟩ := blk4 zz; have hly := blk_lt zz)); have H5 := Lib.hid (⟨hx5, hb5⟩ : _ ∧ _); clear hx5 hb5; (try go_wp2_with fail))
      all_goals
        go_wp2_with fail
        go_meet
        refine ⟨_, rfl, rfl, rfl, ?_⟩
        first
          | (with_reducible refine took_a ?_ ?_
             · exact H5.out.1
             · exact (Below.refl _ _).drew.trans H5.out.2)
          | (with_reducible refine took_b (by rfl) ?_ ?_ ?_
             · exact H5.out.1.more (fun k hk => .inl (by simpa using hk))
             · exact (((Below.refl w1.heap.size w1).alloc (Nat.le_refl _) _).drew).trans (H5.out.2.mono (by simp))
             · exact (H5.out.2.block w1.heap.size (by simp)).trans (heap_alloc_new w1 _))
    case rest =>
      obtain ⟨E3, rfl, rfl, rfl, B, d, hE3, hk3, hx3, hb3⟩ := hcut
      have hX := HB.out.2.1.step hb3
      have hz := (hb3.block E hlz).trans HB.out.2.2
      clear q0 q1 q2 q3 q4 q5 g1 g2 z0 z1 z2 z3 f0 f1 f2 f3
      have hgs : g ≠ E3 := by omega
      have hEs : E ≠ E3 := by omega
      have hgE' : g ≠ E := by omega
      have H3 := Lib.hid (⟨hX.rd, hx3, HB.out.1.trans (hb3.mono HB.out.1.size)⟩ : _ ∧ _ ∧ _)
      obtain ⟨⟨q0, q1, q2, q3, q4, q5⟩, g1, g2, _⟩ := blk6 hX.rd
      obtain ⟨y0, y1, y2, y3⟩ := blk4a hk3
      obtain ⟨⟨z0, z1, z2, z3⟩, f0, f1, f2, f3⟩ := blk4 hz
      have hgl := hX.lt
      have hly := blk_lt hk3
      have hlz' := blk_lt hz
      clear hX hz hk3 hx3 hb3
      go_wp2_with fail
      refine bodyPost_ret (v := exV e B d) (by simp [results, Tryz.results94, go_sem, *]) rfl ?_
      rw [HR.out]
      exact exp_end (w1 := w1) HE.out hgE H3.out.2.2 H3.out.1 H3.out.2.1 hlz
  · have hb0 : (s.bad == 0) = false := beqf hb
    have hbn : (s.bad != 0) = true := bne_of hb0
    have HR : Hid (rExpr l s = (zEx, s)) := Lib.hid (by unfold rExpr; rw [if_pos hb])
    clear h h1 hb1 hbb hw1 hb hE
    go_enter Tryz.func94, Tryz.ntmps94
    go_upto_region 1 with fail
    rw [HW1.out, HE.out]
    go_wp2_with fail
    refine bodyPost_ret (v := exV zEx none 0) (by simp [results, Tryz.results94, go_sem, zEx, Ex.op, Ex.n, Ex.name, Ex.kids, *]) rfl ?_
    rw [HR.out]
    have h2 := same_set4 w1 E (.int .i64 0) (.int .i64 0) (.string ⟨#[]⟩) (.slice none 0 0)
    refine ⟨none, 0, rfl, ExF.leaf rfl, h2.heap (k := g) (by simp; omega) HB.out.2.1.rd, ?_⟩
    exact (Same.of_below (M := [g]) HB.out.1).trans h2 (fun x hx => .inr (by have := HE.out; simp at hx; omega))
end
end Go.Proofs.YtgcfjkfipkfijaaGreatDoor
namespace Go.Proofs.YtgcfjkfipkfijaaGreatDoor
open Go Go.RowKit Go.Lib
def argsP (l : List Tok) (s : RS) : List Ar × RS :=
 let b := rMust l ⟨#[40]⟩ s
 let c := argF l 8 (b.bad == 0 && !rIsSign l ⟨#[41]⟩ b) [] b
 (c.1, rMust l ⟨#[59]⟩ (rMust l ⟨#[41]⟩ c.2))
theorem key_word {t : Tok} {x : ByteArray} (hx : inB x keyWords = false) (h0 : x.size ≠ 0) : seq (keyP t) x = false := by
 refine Bool.eq_false_iff.2 (fun hc => ?_)
 have e := seq_iff.1 hc
 unfold keyP at e
 split at e
 ·rename_i h
  rw [e] at h
  rw [hx] at h
  exact absurd h.2 (by decide)
 ·rw [← e] at h0
  exact h0 rfl
theorem takes_sign {l : List Tok} {x : ByteArray} {s : RS} (hx : inB x keyWords = false) (h0 : x.size ≠ 0) : (rTakes l x s).1 = rIsSign l x s := by
 unfold rTakes rIsKey
 rw [key_word hx h0, Bool.and_false, Bool.false_or]
 cases rIsSign l x s <;> rfl
theorem must_takes {l : List Tok} {x : ByteArray} {s : RS} (h : (rTakes l x s).1 = true) : rMust l x s = (rTakes l x s).2 := by unfold rMust; rw [if_pos h]
theorem takes_no {l : List Tok} {x : ByteArray} {s : RS} (h : (rTakes l x s).1 = false) : (rTakes l x s).2 = s := by
 unfold rTakes at h ⊢
 split
 ·rename_i hc; rw [if_pos hc] at h; exact absurd h (by simp)
 ·rfl
theorem takes_ok {l : List Tok} {x : ByteArray} {s : RS} (h : (rTakes l x s).1 = true) : (rTakes l x s).2.bad = 0 := by
 unfold rTakes at h ⊢
 split
 ·rename_i hc
  rw [Bool.or_eq_true] at hc
  rcases hc with hc | hc
  ·unfold rIsKey at hc; rw [Bool.and_eq_true, beq_iff_eq] at hc; exact hc.1
  ·exact (rIsSign_kind hc).2
 ·rename_i hc; rw [if_neg hc] at h; exact absurd h (by simp)
section
variable {l : List Tok} {s : RS}
theorem fail_stop {e : Int} (h : s.bad ≠ 0) : rFail e s = s := if_neg h
theorem takes_stop {x : ByteArray} (h : s.bad ≠ 0) : rTakes l x s = (false, s) := by
 unfold rTakes rIsKey rIsSign
 rw [beqf h, Bool.false_and, Bool.false_and, if_neg (by simp)]
theorem must_stop {x : ByteArray} (h : s.bad ≠ 0) : rMust l x s = s := by
 unfold rMust
 rw [takes_stop h, if_neg (by simp)]
 exact fail_stop h
theorem name_stop {had : List ByteArray} (h : s.bad ≠ 0) : rName l had s = (⟨#[]⟩, s) := by unfold rName; rw [if_pos h]
theorem expr_stop (h : s.bad ≠ 0) : rExpr l s = (zEx, s) := by unfold rExpr; rw [if_pos h]
theorem unit_stop (h : s.bad ≠ 0) : ∀ (f : Nat) (us : List ByteArray), unitF l f us s = (us, s)
 | 0, us => rfl
 | f + 1, us => by rw [unitF, takes_stop h, if_neg (by simp)]
theorem block_stop {nd : RS → Pc × RS} (h : s.bad ≠ 0) : blockP l nd s = ([], s) := by
 unfold blockP
 rw [must_stop h]
 have : partsF l nd 30 [] s = ([], s) := by rw [partsF, if_neg (fun hc => h hc.1)]
 simp only [this]
 rw [must_stop h]
theorem step_stop (h : s.bad ≠ 0) : (stepP l s).2 = s := by
 unfold stepP
 simp only [name_stop h, must_stop h]
 have : argF l 8 (s.bad == 0 && !rIsSign l ⟨#[41]⟩ s) [] s = ([], s) := by rw [beqf h, Bool.false_and, argF, if_neg (by simp)]
 rw [this]
 simp only [must_stop h]
def ownN (w : ByteArray) : Int := if seq w wIf = true then 3 else 1
theorem node_full {blk : RS → List Pc × RS} (hblk : ∀ s, s.bad ≠ 0 → blk s = ([], s)) {w : ByteArray} (hb : s.bad = 0) (hw : w = wSeq ∨ w = wPar ∨ w = wUnit ∨ w = wIf ∨ w = wPhase) (hn : 24 < s.nodes + ownN w) : (nodeS l blk w s).2 = ⟨s.at_, 2, s.nodes + ownN w⟩ := by
 have hbeg : ∀ n : Int, 24 < s.nodes + n → rBegin n s = ⟨s.at_, 2, s.nodes + n⟩ := fun n hn => by
  unfold rBegin
  rw [if_pos hn]
  unfold rFail
  rw [if_pos hb]
 have h2 : ∀ n : Int, (⟨s.at_, 2, s.nodes + n⟩ : RS).bad ≠ 0 := fun n => by show (2 : Int) ≠ 0; decide
 rcases hw with rfl | rfl | rfl | rfl | rfl
 ·have e : ownN wSeq = 1 := by decide
  rw [e] at hn ⊢
  unfold nodeS
  rw [if_pos (by decide)]
  simp only [hbeg 1 hn, takes_stop (h2 1), hblk _ (h2 1)]
 ·have e : ownN wPar = 1 := by decide
  rw [e] at hn ⊢
  unfold nodeS
  rw [if_pos (by decide)]
  simp only [hbeg 1 hn, takes_stop (h2 1), hblk _ (h2 1)]
 ·have e : ownN wUnit = 1 := by decide
  rw [e] at hn ⊢
  unfold nodeS
  rw [if_neg (by decide), if_pos (by decide)]
  simp only [hbeg 1 hn, takes_stop (h2 1), name_stop (h2 1), unit_stop (h2 1), hblk _ (h2 1)]
 ·have e : ownN wIf = 3 := by decide
  rw [e] at hn ⊢
  unfold nodeS
  rw [if_neg (by decide), if_neg (by decide), if_pos (by decide)]
  simp only [hbeg 3 hn, takes_stop (h2 3), expr_stop (h2 3), hblk _ (h2 3)]
  rw [if_neg (by simp)]
 ·have e : ownN wPhase = 1 := by decide
  rw [e] at hn ⊢
  unfold nodeS
  rw [if_neg (by decide), if_neg (by decide), if_neg (by decide), if_pos (by decide)]
  simp only [hbeg 1 hn, takes_stop (h2 1), step_stop (h2 1)]
end
section
variable {l : List Tok} {s : RS}
theorem must_cnt {x : ByteArray} : (rMust l x s).bad = 0 → s.bad = 0 ∧ (rMust l x s).nodes = s.nodes := by
 unfold rMust rTakes
 by_cases h : (rIsKey l x s || rIsSign l x s) = true
 ·rw [if_pos h]
  intro _
  rw [Bool.or_eq_true] at h
  refine ⟨?_, rfl⟩
  rcases h with h | h
  ·unfold rIsKey at h; rw [Bool.and_eq_true, beq_iff_eq] at h; exact h.1
  ·exact (rIsSign_kind h).2
 ·rw [if_neg h]
  intro h
  exact absurd h (rFail_bad (by decide) _)
end
section
variable {l : List Tok} {s : RS}
def NoCnt (s s' : RS) : Prop := s'.bad = 0 → s.bad = 0 ∧ s'.nodes = s.nodes
theorem NoCnt.refl : NoCnt s s := fun h => ⟨h, rfl⟩
theorem NoCnt.trans {a b c : RS} (h1 : NoCnt a b) (h2 : NoCnt b c) : NoCnt a c := fun h => ⟨(h1 (h2 h).1).1, (h2 h).2.trans (h1 (h2 h).1).2⟩
theorem fail_cnt {e : Int} (he : e ≠ 0) : NoCnt s (rFail e s) := fun h => absurd h (rFail_bad he s)
theorem name_cnt (had : List ByteArray) : NoCnt s (rName l had s).2 := by
 unfold rName
 split
 ·exact .refl
 ·rename_i h
  split
  ·exact fail_cnt (by decide)
  ·split
   ·exact fail_cnt (by decide)
   ·exact fun _ => ⟨Decidable.byContradiction h, rfl⟩
theorem most_cnt (n k : Int) : NoCnt s (rMost l n k s) := by
 unfold rMost
 split
 ·exact fail_cnt (by decide)
 ·exact .refl
theorem expr_cnt : NoCnt s (rExpr l s).2 := by
 unfold rExpr
 split
 ·exact .refl
 ·rename_i h
  exact fun _ => ⟨Decidable.byContradiction h, rfl⟩
theorem mustC (x : ByteArray) : NoCnt s (rMust l x s) := must_cnt
theorem takes_cnt {x : ByteArray} : NoCnt s (rTakes l x s).2 := by
 cases h : (rTakes l x s).1
 ·rw [takes_no h]; exact .refl
 ·rw [← must_takes h]; exact must_cnt
theorem argP_cnt (had : List ByteArray) : NoCnt s (argP l had s).2 := (((most_cnt _ _).trans (name_cnt _)).trans (mustC _)).trans expr_cnt
theorem argF_cnt : ∀ (f : Nat) (q : Bool) (al : List Ar) (s : RS), NoCnt s (argF l f q al s).2
 | 0, _, _, _ => .refl
 | f + 1, q, al, s => by
  rw [argF]
  split
  ·exact ((argP_cnt _).trans takes_cnt).trans (argF_cnt f _ _ _)
  ·exact .refl
theorem args_cnt : NoCnt s (argsP l s).2 := (((mustC _).trans (argF_cnt _ _ _ _)).trans (mustC _)).trans (mustC _)
end
end Go.Proofs.YtgcfjkfipkfijaaGreatDoor
namespace Go.Proofs.YtgcfjkfipkfijaaGreatDoor
open Go Go.RowKit Go.Lib
structure YArW (l : List Tok) (g : Nat) (A : Option Addr) (c : Nat) (w0 wr : World) (B : Option Addr) (b : Nat) (V : Option Addr) (v : Nat) (al : List Ar) (xs : List (Ar × List Value)) (s : RS) (t : RT) : Prop where
 rows : GrowB arK 75 w0.heap.size (fun k => k < w0.heap.size ∨ (Value.slice V al.length v).ownBlock = some k) wr B al.length b xs
 fst : xs.map (·.1) = al
 lens : ∀ q, q ∈ xs → q.2.length = 5
 names : GrowB Kind.str 9 w0.heap.size (fun k => k < w0.heap.size) wr V al.length v ((al.map (·.name)).map sE)
 apart : ∀ k, (Value.slice B al.length b).ownBlock = some k → (Value.slice V al.length v).ownBlock ≠ some k
 rdr : Xdr l g A c wr s t
 same : Same [g] w0 wr
 lt : g < w0.heap.size
section
variable {l : List Tok} {g c b v : Nat} {A B V : Option Addr} {w0 wr w' : World} {al : List Ar} {xs : List (Ar × List Value)} {s s' : RS} {t : RT}
theorem YArW.step (h : YArW l g A c w0 wr B b V v al xs s t) (hs : Same [g] wr w') (hr : XdP w' g A l.length c s' t) (hi : InR l s') : YArW l g A c w0 w' B b V v al xs s' t :=
 have hl := h.lt
 ⟨h.rows.keep hs (fun k hk => by simp at hk; exact .inl (by omega)) (fun k hk e => by simp at hk; have := (h.rows.blk k e).1; omega), h.fst, h.lens, h.names.keepS hs (fun k hk e => by simp at hk; have := (h.names.blk k e).1; omega), h.apart, h.rdr.next hr hs (fun k hk => by simp at hk; omega) hi, h.same.then_ hs, hl⟩
theorem YArW.push {w2 w3 : World} {g2 b2 g3 v3 : Nat} {a : Ar} {cs : List Value} (h : YArW l g A c w0 wr B b V v al xs s t) (hcs : cs.length = 5)
  (h2 : GrowB arK 75 w0.heap.size (fun k => k < w0.heap.size ∨ (Value.slice V al.length v).ownBlock = some k) w2 (some ⟨g2, 0, none⟩) (al.length + 1) b2 (xs ++ [(a, cs)])) (hs2 : Same (Value.slice B al.length b).ownBlock.toList wr w2)
  (hg2 : (Value.slice B al.length b).ownBlock = some g2 ∨ wr.heap.size < g2) (h3 : GrowB Kind.str 9 w0.heap.size (fun k => k < w0.heap.size) w3 (some ⟨g3, 0, none⟩) (al.length + 1) v3 ((al.map (·.name)).map sE ++ [(a.name, [.string a.name])])) (hs3 : Same (Value.slice V al.length v).ownBlock.toList w2 w3)
  (hg3 : (Value.slice V al.length v).ownBlock = some g3 ∨ w2.heap.size < g3) : YArW l g A c w0 w3 (some ⟨g2, 0, none⟩) b2 (some ⟨g3, 0, none⟩) v3 (al ++ [a]) (xs ++ [(a, cs)]) s t := by
 have hl := h.lt
 have hlen : (al ++ [a]).length = al.length + 1 := by simp
 have hb2 := (h2.blk g2 rfl)
 have hap : ∀ k, k ∈ (Value.slice V al.length v).ownBlock.toList → (Value.slice (some ⟨g2, 0, none⟩) (al.length + 1) b2).ownBlock ≠ some k := fun k hk e => by
  obtain rfl : g2 = k := by have : some g2 = some k := e; exact Option.some.inj this
  rcases hg2 with h1 | h1
  ·exact h.apart g2 h1 (by simpa using hk)
  ·have := (h.names.blk g2 (by simpa using hk)).2; omega
 have hS : Same [g] w0 w3 := (h.same.trans hs2 (fun x hx => .inr (h.rows.blk x (by simpa using hx)).1)).trans hs3 (fun x hx => .inr (h.names.blk x (by simpa using hx)).1)
 refine ⟨?_, by rw [List.map_append, h.fst]; rfl, fun q hq => ?_, ?_, fun k hk e => ?_, ?_, hS, hl⟩
 ·rw [hlen]
  refine ((h2.more (Q := fun k => (k < w0.heap.size ∨ (Value.slice V al.length v).ownBlock = some k) ∨ k = g3) (fun k hk => ?_)).keep hs3 (fun k hk => .inl (.inr (by simpa using hk))) hap).more (fun k hk => ?_)
  ·rcases hk with hk | rfl
   ·exact .inl hk
   ·rcases hg3 with h1 | h1
    ·exact .inl (.inr h1)
    ·exact .inr (by omega)
  ·rcases hk with hk | hk
   ·exact .inl (.inl (.inl hk))
   ·exact .inl (.inr (by have : some g3 = some k := hk; exact (Option.some.inj this).symm))
 ·rcases List.mem_append.1 hq with hq | hq
  ·exact h.lens q hq
  ·simp at hq; subst hq; exact hcs
 ·rw [hlen, List.map_append, List.map_append]
  exact h3
 ·rw [hlen] at hk e
  obtain rfl : g2 = k := by have : some g2 = some k := hk; exact Option.some.inj this
  obtain rfl : g3 = g2 := by have : some g3 = some g2 := e; exact Option.some.inj this
  rcases hg3 with h1 | h1
  ·exact hap g3 (by simpa using h1) rfl
  ·omega
 ·have hno : ∀ M : List Nat, (∀ k, k ∈ M → w0.heap.size ≤ k) → g ∉ M := fun M hM hc => by have := hM g hc; omega
  have hgk : ∀ k, k ∈ (Value.slice B al.length b).ownBlock.toList → g ≤ k := fun k hk => by have := (h.rows.blk k (by simpa using hk)).1; omega
  have hgk2 : ∀ k, k ∈ (Value.slice V al.length v).ownBlock.toList → g ≤ k := fun k hk => by have := (h.names.blk k (by simpa using hk)).1; omega
  refine (h.rdr.next (hs2.heap (hno _ (fun k hk => (h.rows.blk k (by simpa using hk)).1)) h.rdr.rd) hs2 hgk h.rdr.inr).next ?_ hs3 hgk2 h.rdr.inr
  exact hs3.heap (hno _ (fun k hk => (h.names.blk k (by simpa using hk)).1)) (hs2.heap (hno _ (fun k hk => (h.rows.blk k (by simpa using hk)).1)) h.rdr.rd)
end
end Go.Proofs.YtgcfjkfipkfijaaGreatDoor
namespace Go.Proofs.YtgcfjkfipkfijaaGreatDoor
open Go Go.RowKit Go.Lib
def YArgs (g : Nat) (A : Option Addr) (n c : Nat) (p : List Ar × RS) (t : RT) (w : World) (r : Ending) (w' : World) : Prop :=
 ∃ B b, r = .returned (.slice B p.1.length b) ∧ RowF arK (fun k => k < w.heap.size) w' B b p.1 ∧ XdP w' g A n c p.2 t ∧ Same [g] w w'
theorem YArW.post {l : List Tok} {g c b v : Nat} {A B V : Option Addr} {w0 wr : World} {al : List Ar} {xs : List (Ar × List Value)} {s : RS} {t : RT} (h : YArW l g A c w0 wr B b V v al xs s t) : YArgs g A l.length c (al, s) t w0 (.returned (.slice B al.length b)) wr := by
 have h1 := (h.rows.more (Q := fun k => k < w0.heap.size) (fun k hk => .inl (.inl hk))).out (fun k hk => hk) h.lens
 rw [h.fst] at h1
 exact ⟨B, b, rfl, h1, h.rdr.rd, h.same⟩
set_option maxHeartbeats 8000000 in
set_option maxRecDepth 100000 in
theorem yargs_any {l : List Tok} {g c : Nat} {A : Option Addr} {s : RS} {w : World} {t : RT} (T : Toks l) (hl : l.length ≤ 2001) (h : Xdr l g A c w s t) : Calls Tryz.prog 95 #[.pointer (some ⟨g, 0, none⟩)] w (YArgs g A l.length c (argsP l s) t w) := by
 obtain ⟨s1, h1⟩ : ∃ x, rMust l ⟨#[40]⟩ s = x := ⟨_, rfl⟩
 obtain ⟨e0, he⟩ : ∃ x, (rTakes l ⟨#[41]⟩ s1).1 = x := ⟨_, rfl⟩
 obtain ⟨c5, h5⟩ : ∃ x, argF l 8 (s1.bad == 0 && !rIsSign l ⟨#[41]⟩ s1) [] s1 = x := ⟨_, rfl⟩
 have hX : argsP l s = (c5.1, rMust l ⟨#[59]⟩ (rMust l ⟨#[41]⟩ c5.2)) := by
  unfold argsP
  simp only [h1, h5]
 rw [hX]
 have hi1 := (rMust_on T.fin ⟨#[40]⟩ (by decide) h.inr).1
 rw [h1] at hi1
 have h50 : argF l 8 (!e0 && s1.bad == 0) [] s1 = c5 := by
  rw [← h5, ← he, takes_sign (by decide) (by decide), Bool.and_comm]
 have H := Lib.hid (⟨h, h1, he, hi1, h50⟩ : _ ∧ _ ∧ _ ∧ _ ∧ _)
 clear h h1 he h5 hX hi1 h50
 have hg := H.out.1.lt
 go_enter Tryz.func95, Tryz.ntmps95
 go_wp2_with fail
 refine (ymust_any T H.out.1 ⟨#[40]⟩ (by decide)).mono ?_
 rw [H.out.2.1]
 rintro r w1 ⟨rfl, hr1, hs1⟩
 have H1 := Lib.hid (⟨H.out.1.next hr1 hs1 (fun k hk => by simp at hk; omega) H.out.2.2.2.1, hs1⟩ : _ ∧ _)
 clear hr1 hs1
 go_wp2_with fail
 refine (yis_any T H1.out.1 ⟨#[41]⟩ (by decide)).mono ?_
 rw [H.out.2.2.1]
 rintro r w2 ⟨rfl, hb2⟩
 have H2 := Lib.hid (⟨H1.out.1.step hb2, H1.out.2.below_ hb2⟩ : _ ∧ _)
 clear hb2
 go_wp2_with fail
 go_loopg [3, 4] 10 (fun k s3 s4 wr => ∃ n V v B b al xs s', s3 = .slice B al.length b ∧ s4 = .slice V al.length v ∧ YArW l g A c w wr B b V v al xs s' t ∧ n < k ∧ n + al.length = 8 ∧ ((!e0 && s'.bad == 0) = true → al.length ≤ 4) ∧ argF l n (!e0 && s'.bad == 0) al s' = c5)
 case atStart => exact ⟨8, none, 0, none, 0, [], [], s1, rfl, rfl, ⟨GrowB.nil _ _ _ _ _, rfl, fun q hq => by simp at hq, GrowB.nil _ _ _ _ _, fun k hk => by simp [Value.ownBlock] at hk, H2.out.1, H2.out.2, hg⟩, by omega, rfl, fun _ => by simp, H.out.2.2.2.2⟩
 case round =>
  obtain ⟨n, V, v, B, b, al, xs, s', rfl, rfl, hW, hnk, hnl, hq4, hans⟩ := hrel
  obtain ⟨gk, rfl⟩ : ∃ k, gk = k + 1 := ⟨gk - 1, by omega⟩
  have HW := Lib.hid hW
  have HANS := Lib.hid hans
  obtain ⟨⟨q0, q1, q2, q3, q4, q5⟩, _⟩ := blk6 hW.rdr.rd
  have hgl := hW.rdr.lt
  clear hW hans
  obtain ⟨q, hq⟩ : ∃ q, (!e0 && s'.bad == 0) = q := ⟨_, rfl⟩
  rw [hq] at HANS hq4
  cases q with
  | false =>
   have hfin : (al, s') = c5 := by
    have h := HANS.out
    cases n with
    | zero => exact h
    | succ n => rw [argF, if_neg (by decide)] at h; exact h
   have HF := Lib.hid hfin
   have key : e0 = true ∨ e0 = false ∧ (s'.bad == 0) = false := by
    cases e0
    ·exact .inr ⟨rfl, by simpa using hq⟩
    ·exact .inl rfl
   clear hfin hq4 hq
   rcases key with rfl | ⟨rfl, t1⟩
   all_goals
    go_wp2_with fail
    refine (ymust_any T HW.out.rdr ⟨#[41]⟩ (by decide)).mono ?_
    rintro e w5 ⟨rfl, hr5, hs5⟩
    have HW5 := Lib.hid (HW.out.step hs5 hr5 (rMust_on T.fin ⟨#[41]⟩ (by decide) HW.out.rdr.inr).1)
    clear hr5 hs5
    go_wp2_with fail
    refine (ymust_any T HW5.out.rdr ⟨#[59]⟩ (by decide)).mono ?_
    rintro e w6 ⟨rfl, hr6, hs6⟩
    have HW6 := Lib.hid (HW5.out.step hs6 hr6 (rMust_on T.fin ⟨#[59]⟩ (by decide) HW5.out.rdr.inr).1)
    clear hr6 hs6
    go_wp2_with fail
    go_ret
    rw [← HF.out]
    exact HW6.out.post
  | true =>
   have h4 := hq4 rfl
   obtain ⟨rfl, hbad⟩ : e0 = false ∧ (s'.bad == 0) = true := by
    cases e0
    ·exact ⟨rfl, by simpa using hq⟩
    ·exact absurd hq (by simp)
   obtain ⟨m, rfl⟩ : ∃ m, n = m + 1 := ⟨n - 1, by omega⟩
   obtain ⟨a2, h2⟩ : ∃ x, rName l (al.map (·.name)) (rMost l ((al.map (·.name)).length : Nat) 4 s') = x := ⟨_, rfl⟩
   obtain ⟨s3', h3⟩ : ∃ x, rMust l ⟨#[61]⟩ a2.2 = x := ⟨_, rfl⟩
   obtain ⟨⟨e4, s4'⟩, h4'⟩ : ∃ x, rExpr l s3' = x := ⟨_, rfl⟩
   obtain ⟨c6, h6⟩ : ∃ x, rTakes l ⟨#[44]⟩ s4' = x := ⟨_, rfl⟩
   have hap : argP l (al.map (·.name)) s' = (⟨a2.1, e4⟩, s4') := by
    unfold argP
    simp only [h2, h3, h4']
   have hans : argF l m c6.1 (al ++ [⟨a2.1, e4⟩]) c6.2 = c5 := by
    have h := HANS.out
    rw [argF, if_pos rfl, hap] at h
    rw [← h6]
    exact h
   have hlt4 : c6.1 = true → al.length + 1 ≤ 4 := fun hc => by
    by_cases h5 : al.length = 4
    ·have hb := argP_full (l := l) (had := al.map (·.name)) (s := s') (by rw [List.length_map]; exact h5)
     rw [hap] at hb
     rw [← h6] at hc
     exact absurd (rTakes_bad (by decide) hc) hb
    ·omega
   have HS := Lib.hid (⟨h2, h3, h4', h6, hans, hlt4⟩ : _ ∧ _ ∧ _ ∧ _ ∧ _ ∧ _)
   have HNM := Lib.hid (yname_any T HW.out.rdr (cc := v) (had := al.map (·.name)) HW.out.names.strs 4 (by rw [List.length_map]; omega))
   rw [h2, List.length_map] at HNM
   clear h2 h3 h4' h6 hap hans hlt4 hq4 hq
   go_wp2_with fail
   refine HNM.out.mono ?_
   rintro e w3 ⟨rfl, hr3, hs3⟩
   have hin3 : InR l a2.2 := by
    have h0 := rMost_on (l := l) (((al.map (·.name)).length : Nat) : Int) 4 HW.out.rdr.inr
    have := (rName_on T.fin (al.map (·.name)) h0.1).1
    rwa [HS.out.1] at this
   have HW3 := Lib.hid (HW.out.step hs3 hr3 hin3)
   clear hr3 hs3 hin3 q0 q1 q2 q3 q4 q5 hgl
   go_wp2_with fail
   refine (ymust_any T HW3.out.rdr ⟨#[61]⟩ (by decide)).mono ?_
   rw [HS.out.2.1]
   rintro e w4 ⟨rfl, hr4, hs4⟩
   have HW4 := Lib.hid (HW3.out.step hs4 hr4 (by have := (rMust_on T.fin ⟨#[61]⟩ (by decide) HW3.out.rdr.inr).1; rwa [HS.out.2.1] at this))
   clear hr4 hs4
   go_wp2_with fail
   refine (yexpr_any hl HW4.out.rdr).mono ?_
   rw [HS.out.2.2.1]
   rintro e w5 ⟨eB, ed, rfl, hx5, hr5, hs5⟩
   simp only at hx5 hr5
   have HW5 := Lib.hid (HW4.out.step hs5 hr5 (by have := (rExpr_on T.take HW4.out.rdr.inr).1; rwa [HS.out.2.2.1] at this))
   have hav : Av arK (fun k => (k < w.heap.size ∨ (Value.slice V al.length v).ownBlock = some k) ∨ (Value.slice B al.length b).ownBlock = some k) w5 ⟨a2.1, e4⟩ [.string a2.1, .int .i64 e4.op, .int .i64 e4.n, .string e4.name, .slice eB e4.kids.length ed] :=
    Av.ar (hx5.more (fun k hk => .inl (by
     have h0 := HW4.out.same.size
     rcases hk with (hk | hk) | hk
     ·omega
     ·exact (HW4.out.names.blk k hk).2
     ·exact (HW4.out.rows.blk k hk).2)))
   have HAV := Lib.hid hav
   clear hx5 hr5 hs5 hav
   go_wp2_with (at_builtin; refine Hid.out ?_)
   refine Lib.hid ?_
   refine wpList_grow (by rfl) _ _ _ (by rfl) (.agg #[.string ⟨#[]⟩, .int .i64 0, .int .i64 0, .string ⟨#[]⟩, .slice none 0 0]) 72 Tryz.underlying38 info_ar (by rfl) (by decide) (by rfl) HW5.out.rows (⟨a2.1, e4⟩ : Ar) #[.string a2.1, .int .i64 e4.op, .int .i64 e4.n, .string e4.name, .slice eB e4.kids.length ed] _ (by rfl) (by rfl) (by simp [Value.oneCell']) HAV.out (by unfold maxLen; omega) (by omega) HW5.out.same.size ?_
   intro g2 cap2 w6 hG2 hS2 hg2
   have hn6 := HW5.out.names.keepS hS2 (fun k hk e => HW5.out.apart k (by simpa using hk) e)
   have H6 := Lib.hid (⟨hG2, hS2, hg2.2.2, hn6, Nat.le_trans HW5.out.same.size hS2.size⟩ : _ ∧ _ ∧ _ ∧ _ ∧ _)
   clear hG2 hS2 hg2 hn6
   go_wp2_with (at_builtin; refine Hid.out ?_)
   refine Lib.hid ?_
   refine wpList_grow (by rfl) _ _ _ (by rfl) (.string ⟨#[]⟩) 16 Tryz.underlying37 info_str (by rfl) (by decide) (by rfl) H6.out.2.2.2.1 a2.1 #[.string a2.1] _ (by rfl) (by rfl) (by simp [Value.oneCell']) (Av.str _ _ _) (by unfold maxLen; omega) (by omega) H6.out.2.2.2.2 ?_
   intro g3 cap3 w7 hG3 hS3 hg3
   have HW7 := Lib.hid (HW5.out.push (a := ⟨a2.1, e4⟩) (by rfl) H6.out.1 H6.out.2.1 H6.out.2.2.1 hG3 hS3 hg3.2.2)
   clear hG3 hS3 hg3
   go_wp2_with fail
   refine (yis_any T HW7.out.rdr ⟨#[44]⟩ (by decide)).mono ?_
   rw [HS.out.2.2.2.1]
   rintro e w8 ⟨rfl, hb8⟩
   have HW8 := Lib.hid (HW7.out.step (Same.of_below hb8) (HW7.out.rdr.step hb8).rd HW7.out.rdr.inr)
   clear hb8
   obtain ⟨cm, hcm⟩ : ∃ q, c6.1 = q := ⟨_, rfl⟩
   have HC := Lib.hid hcm
   rw [hcm]
   clear hcm
   cases cm with
   | false =>
    have hfin : (al ++ [⟨a2.1, e4⟩], s4') = c5 := by
     have h := HS.out.2.2.2.2.1
     have h0 := takes_no (l := l) (x := ⟨#[44]⟩) (s := s4') (by rw [HS.out.2.2.2.1]; exact HC.out)
     rw [HS.out.2.2.2.1] at h0
     rw [HC.out, h0] at h
     cases m with
     | zero => exact h
     | succ m => rw [argF, if_neg (by decide)] at h; exact h
    have HF := Lib.hid hfin
    clear hfin
    go_wp2_with fail
    refine (ymust_any T HW8.out.rdr ⟨#[41]⟩ (by decide)).mono ?_
    rintro e w5' ⟨rfl, hr5, hs5⟩
    have HW9 := Lib.hid (HW8.out.step hs5 hr5 (rMust_on T.fin ⟨#[41]⟩ (by decide) HW8.out.rdr.inr).1)
    clear hr5 hs5
    go_wp2_with fail
    refine (ymust_any T HW9.out.rdr ⟨#[59]⟩ (by decide)).mono ?_
    rintro e w6' ⟨rfl, hr6, hs6⟩
    have HW10 := Lib.hid (HW9.out.step hs6 hr6 (rMust_on T.fin ⟨#[59]⟩ (by decide) HW9.out.rdr.inr).1)
    clear hr6 hs6
    go_wp2_with fail
    go_ret
    rw [← HF.out]
    have hp := HW10.out.post
    rw [show (al ++ [(⟨a2.1, e4⟩ : Ar)]).length = al.length + 1 by simp] at hp
    exact hp
   | true =>
    have hmt := must_takes (l := l) (x := ⟨#[44]⟩) (s := s4') (by rw [HS.out.2.2.2.1]; exact HC.out)
    have hok := takes_ok (l := l) (x := ⟨#[44]⟩) (s := s4') (by rw [HS.out.2.2.2.1]; exact HC.out)
    rw [HS.out.2.2.2.1] at hmt hok
    have HM := Lib.hid (⟨hmt, hok⟩ : _ ∧ _)
    clear hmt hok
    go_wp2_with fail
    refine (ymust_any T HW8.out.rdr ⟨#[44]⟩ (by decide)).mono ?_
    rw [HM.out.1]
    rintro e w9 ⟨rfl, hr9, hs9⟩
    have HW9 := Lib.hid (HW8.out.step hs9 hr9 (by have := (rMust_on T.fin ⟨#[44]⟩ (by decide) HW8.out.rdr.inr).1; rwa [HM.out.1] at this))
    clear hr9 hs9
    go_wp2_with fail
    go_roundg gk
    case measure => omega
    case rel =>
     have hbz : (c6.2.bad == 0) = true := beq_iff_eq.2 HM.out.2
     exact ⟨m, some ⟨g3, 0, none⟩, cap3, some ⟨g2, 0, none⟩, cap2, al ++ [⟨a2.1, e4⟩], _, c6.2, by simp, by simp, HW9.out, by omega, by simp; omega, fun _ => by have := HS.out.2.2.2.2.2 HC.out; simpa using this, by rw [hbz]; have := HS.out.2.2.2.2.1; rw [HC.out] at this; exact this⟩
end Go.Proofs.YtgcfjkfipkfijaaGreatDoor
namespace Go.Proofs.YtgcfjkfipkfijaaGreatDoor
open Go Go.RowKit Go.Lib
theorem step_node {ops : Array Oper} {o : Oper} {a : Act} {K : Act → World → Prop} {Q : Exit → Act → World → Prop} {E : Prop} {b0 : Nat} {P : Nat → Prop} {w : World} {B : Option Addr} {n b : Nat} {qs : List NQ} (hgd : o.guard = none) (s x : Operand)
  (ho : o.op = .call { callee := .builtin .append, args := #[s, x], argTypes := #[24, 24] }) (hs : a.eval s = .slice B n b) (h : NodesB b0 P w B n b qs) (q0 : NQ) (h0 : q0.nd.kids = []) (hk0 : q0.kV = .slice none 0 0) (hr : Rest (fun k => P k ∨ k ∈ blks (.slice B n b) qs) w q0)
  (cs : Array Value) (hcs : cs.toList = q0.enc) (ty : TypeId) (hx : a.eval x = .slice (some ⟨w.heap.size, 0, none⟩) 1 1) (hn : n ≤ 1000) (hb0 : b0 ≤ w.heap.size)
  (k : ∀ g cap w', NodesB b0 P w' (some ⟨g, 0, none⟩) (n + 1) cap (qs ++ [q0]) → Same (Value.slice B n b).ownBlock.toList w w' → (∀ k, k ∈ blks (.slice (some ⟨g, 0, none⟩) (n + 1) cap) (qs ++ [q0]) → k ∈ blks (.slice B n b) qs ∨ w.heap.size ≤ k) →
    K (a.put o.dst (.slice (some ⟨g, 0, none⟩) (n + 1) cap)) w') : if Region.wanted o (yielded ops a.tmps) = true then Oper.wp Tryz.prog o a (w.alloc (.cells cs ty)).drew K Q else E := by
 obtain ⟨i0, hi0, hz0, hz1, hz2⟩ := info_parts info_nd
 refine step_append_lies _ hgd s x _ ho b0 43 i0 _ 9 152 Tryz.underlying24 hi0 hz0 hz1 hz2 rfl (by omega) (.slice B n b) n (qs.flatMap NQ.enc) hs ((h.own.alloc _).drew) ⟨w.heap.size, 0, none⟩ 1 1 q0.enc hx rfl ?_ (by simp [NQ.enc, NQ.kV, Value.oneCell']) (by decide) (by unfold maxLen; omega) (by omega) (by simp; omega) (w.heap.size + 1) (by simp) ?_
 ·intro j u hu
  have := blk_cell (heap_alloc_new w (.cells cs ty)) j
  have e : (⟨w.heap.size, 0, none⟩ : Addr).add j = ⟨w.heap.size, j, none⟩ := by unfold Addr.add; split <;> simp_all
  rw [e]
  refine this.trans ?_
  rw [← hcs] at hu
  simpa using hu
 ·intro g cap w6 hown hg hat hlt
  obtain ⟨h1, h2, h3⟩ := h.push (ob := .cells cs ty) h0 hk0 hr ⟨hg.os, hg.tape, hg.output, hg.size, hg.block⟩ hown hat
  exact k g cap w6 h1 h2 h3
theorem nodes_far {b0 g : Nat} {w w' : World} {B : Option Addr} {n b : Nat} {qs : List NQ} (h : NodesB b0 (fun k => k < b0) w B n b qs) (hs : Same [g] w w') (hg : g < b0) : NodesB b0 (fun k => k < b0) w' B n b qs :=
 ⟨h.len, own_same' h.own hs (fun k hk e => by simp at hk; have := (own_block h.own k e).1; omega), fun q hq => own_same' (h.kid q hq) hs (fun k hk e => by simp at hk; have := (own_block (h.kid q hq) k e).1; omega), h.dist, fun q hq => (h.rest q hq).keep hs (fun k hk => by simp at hk; subst hk; exact .inl hg)⟩
structure XN (l : List Tok) (g : Nat) (A : Option Addr) (c b0 : Nat) (w : World) (s : RS) (nm pV : Value) (B : Option Addr) (n b : Nat) (qs : List NQ) : Prop where
 rdr : Xdr l g A c w s (nm, pV, .slice B n b)
 nodes : NodesB b0 (fun k => k < b0) w B n b qs
 gb : g < b0
 lo : b0 ≤ w.heap.size
section
variable {l : List Tok} {g c b0 : Nat} {A : Option Addr} {s s' : RS} {w w' : World} {nm pV : Value} {B : Option Addr} {n b : Nat} {qs : List NQ}
theorem XN.step (h : XN l g A c b0 w s nm pV B n b qs) (hs : Same [g] w w') (hr : XdP w' g A l.length c s' (nm, pV, .slice B n b)) (hi : InR l s') : XN l g A c b0 w' s' nm pV B n b qs := by
 have hg := h.gb
 exact ⟨h.rdr.next hr hs (fun k hk => by simp at hk; omega) hi, nodes_far h.nodes hs hg, hg, Nat.le_trans h.lo hs.size⟩
theorem XN.laid {w6 : World} {g2 cap : Nat} {q0 : NQ} (h : XN l g A c b0 w s nm pV B n b qs) (hN : NodesB b0 (fun k => k < b0) w6 (some ⟨g2, 0, none⟩) (n + 1) cap (qs ++ [q0])) (hS : Same (Value.slice B n b).ownBlock.toList w w6) :
  XN l g A c b0 (w6.setCell ⟨g, 5, none⟩ (.slice (some ⟨g2, 0, none⟩) (n + 1) cap)) s nm pV (some ⟨g2, 0, none⟩) (n + 1) cap (qs ++ [q0]) ∧ Same (g :: blks (.slice B n b) qs) w (w6.setCell ⟨g, 5, none⟩ (.slice (some ⟨g2, 0, none⟩) (n + 1) cap)) := by
 have hg := h.gb
 have hno : ∀ k, k ∈ (Value.slice B n b).ownBlock.toList → b0 ≤ k := fun k hk => (own_block h.nodes.own k (by simpa using hk)).1
 have hgn : g ∉ (Value.slice B n b).ownBlock.toList := fun hc => by have := hno g hc; omega
 have h6 := hS.heap hgn h.rdr.rd
 have hs : Same [g] w6 (w6.setCell ⟨g, 5, none⟩ (.slice (some ⟨g2, 0, none⟩) (n + 1) cap)) := (Same.refl [g] w6).setCell (.inl (by simp)) _
 refine ⟨⟨⟨blk_set h6 5 _, (h.rdr.row.keep hS (fun k hk => by have := hno k hk; omega)).keep hs (fun k hk => by simp at hk; omega), h.rdr.inr⟩, nodes_far hN hs hg, hg, Nat.le_trans h.lo (Nat.le_trans hS.size hs.size)⟩, ?_⟩
 exact (hS.mono (fun x hx => List.mem_cons_of_mem _ (mem_blks.2 (.inl (by simpa using hx))))).then_ (hs.mono (fun x hx => by simp at hx; subst hx; simp))
theorem XN.kid {w6 : World} {gB g6 cap j : Nat} {ob : Obj} {num : Int} (h : XN l g A c b0 w s nm pV (some ⟨gB, 0, none⟩) n b qs) (hj : j < qs.length) (hg : (w.alloc ob).grownBy w6 (qs[j].kV).ownBlock)
  (hown : w6.ownsRow b0 3 1 (.slice (some ⟨g6, 0, none⟩) (qs[j].nd.kids.length + 1) cap) (qs[j].nd.kids.length + 1) (qs[j].nd.kids.map (Value.int .i64 ·) ++ [.int .i64 num])) (hat : (qs[j].kV).ownBlock = some g6 ∨ g6 = w.heap.size + 1) :
  XN l g A c b0 (w6.setCell ⟨gB, j * 9 + 1, none⟩ (.slice (some ⟨g6, 0, none⟩) (qs[j].nd.kids.length + 1) cap)) s nm pV (some ⟨gB, 0, none⟩) n b (qs.set j (qs[j].one num g6 cap)) ∧
   Same (blks (.slice (some ⟨gB, 0, none⟩) n b) qs) w (w6.setCell ⟨gB, j * 9 + 1, none⟩ (.slice (some ⟨g6, 0, none⟩) (qs[j].nd.kids.length + 1) cap)) ∧
   ∀ k, k ∈ blks (.slice (some ⟨gB, 0, none⟩) n b) (qs.set j (qs[j].one num g6 cap)) → k ∈ blks (.slice (some ⟨gB, 0, none⟩) n b) qs ∨ w.heap.size ≤ k := by
 obtain ⟨h1, h2, h3⟩ := h.nodes.kidPush hj hg hown hat
 have hgb := h.gb
 have hno : ∀ k, k ∈ blks (.slice (some ⟨gB, 0, none⟩) n b) qs → b0 ≤ k := fun k hk => (h.nodes.lt k hk).1
 refine ⟨⟨⟨h2.heap (fun hc => by have := hno g hc; omega) h.rdr.rd, h.rdr.row.keep h2 (fun k hk => by have := hno k hk; omega), h.rdr.inr⟩, h1, hgb, Nat.le_trans h.lo h2.size⟩, h2, h3⟩
theorem nd_modify {qs : List NQ} {j : Nat} (hj : j < qs.length) (num : Int) (g6 cap : Nat) : (qs.set j (qs[j].one num g6 cap)).map (·.nd) = (qs.map (·.nd)).modify j (fun x => { x with kids := x.kids ++ [num] }) := by
 apply List.ext_getElem?
 intro i
 rw [List.getElem?_map, List.getElem?_set, List.getElem?_modify, List.getElem?_map]
 by_cases hij : j = i
 ·subst hij
  simp [hj, NQ.one]
 ·simp [hij]
theorem step_kid {ops : Array Oper} {o : Oper} {a : Act} {K : Act → World → Prop} {Q : Exit → Act → World → Prop} {E : Prop} {v : Value} {ks : List Int} (hgd : o.guard = none) (sl x : Operand)
  (ho : o.op = .call { callee := .builtin .append, args := #[sl, x], argTypes := #[36, 36] }) (hs : a.eval sl = v) (h : w.ownsRow b0 3 1 v ks.length (ks.map (Value.int .i64 ·))) (num : Int) (hx : a.eval x = .slice (some ⟨w.heap.size, 0, none⟩) 1 1) (hn : ks.length ≤ 1000) (hb0 : b0 ≤ w.heap.size)
  (k : ∀ g6 cap w6, (w.alloc (.cells #[.int .i64 num] 3)).grownBy w6 v.ownBlock → w6.ownsRow b0 3 1 (.slice (some ⟨g6, 0, none⟩) (ks.length + 1) cap) (ks.length + 1) (ks.map (Value.int .i64 ·) ++ [.int .i64 num]) → (v.ownBlock = some g6 ∨ g6 = w.heap.size + 1) →
    K (a.put o.dst (.slice (some ⟨g6, 0, none⟩) (ks.length + 1) cap)) w6) : if Region.wanted o (yielded ops a.tmps) = true then Oper.wp Tryz.prog o a (w.alloc (.cells #[.int .i64 num] 3)).drew K Q else E := by
 obtain ⟨i0, hi0, hz0, hz1, hz2⟩ := info_parts info_int'
 refine step_append_lies _ hgd sl x _ ho b0 3 i0 _ 1 8 Tryz.underlying36 hi0 hz0 hz1 hz2 rfl (by omega) v ks.length (ks.map (Value.int .i64 ·)) hs ((h.alloc _).drew) ⟨w.heap.size, 0, none⟩ 1 1 [.int .i64 num] hx (by rfl) ?_ (by simp [Value.oneCell']) (by decide) (by unfold maxLen; omega) (by omega) (by simp; omega) (w.heap.size + 1) (by simp) ?_
 ·intro j u hu
  have := World.news_of_block (cs := #[.int .i64 num]) (t := 3) (fr := (0, 0)) (heap_alloc_new w _) j u (by simpa using hu)
  exact this
 ·intro g6 cap w6 hown hg hat hlt
  exact k g6 cap w6 ⟨hg.os, hg.tape, hg.output, hg.size, hg.block⟩ hown hat
set_option maxHeartbeats 8000000 in
set_option maxRecDepth 100000 in
theorem yadd_any (h : XN l g A c b0 w s nm pV B n b qs) (of : Nat) (hof : of < n) (hn : n ≤ 100) (hkb : ∀ q, q ∈ qs → q.nd.kids.length ≤ 100) (q0 : NQ) (h0 : q0.nd.kids = []) (hk0 : q0.kV = .slice none 0 0) (hr : Rest (fun k => k < b0 ∨ k ∈ blks (.slice B n b) qs) w q0) :
  Calls Tryz.prog 93 #[.pointer (some ⟨g, 0, none⟩), .int .i64 of, .agg q0.enc.toArray] w fun r w' => r = .returned (.int .i64 n) ∧ ∃ B' b' qs', XN l g A c b0 w' s nm pV B' (n + 1) b' qs' ∧
   qs'.map (·.nd) = ((qs ++ [q0]).map (·.nd)).modify of (fun x => { x with kids := x.kids ++ [(n : Int)] }) ∧ Same (g :: blks (.slice B n b) qs) w w' ∧ ∀ k, k ∈ blks (.slice B' (n + 1) b') qs' → k ∈ blks (.slice B n b) qs ∨ w.heap.size ≤ k := by
 obtain ⟨⟨kind, kids, us, nn, al, ⟨eo, en, enm, ek⟩⟩, kA, kc, uA, uc, gA, gc, eA, ec⟩ := q0
 have hkids : kids = [] := h0
 subst hkids
 obtain ⟨rfl, rfl⟩ : kA = none ∧ kc = 0 := by have : Value.slice kA 0 kc = .slice none 0 0 := hk0; simpa using this
 obtain ⟨w1, hw1⟩ : ∃ w', w.alloc (.cells #[.int .i64 kind, .slice none 0 0, .slice uA us.length uc, .string nn, .slice gA al.length gc, .int .i64 eo, .int .i64 en, .string enm, .slice eA ek.length ec] 43) = w' := ⟨_, rfl⟩
 have hb1 : Below w.heap.size w w1 := hw1 ▸ (Below.refl _ _).alloc (Nat.le_refl _) _
 have hx1 : w1.heap[w.heap.size]? = some (.cells #[.int .i64 kind, .slice none 0 0, .slice uA us.length uc, .string nn, .slice gA al.length gc, .int .i64 eo, .int .i64 en, .string enm, .slice eA ek.length ec] 43 (0, 0)) := hw1 ▸ heap_alloc_new _ _
 have h1 := h.step (Same.of_below hb1) (h.rdr.step hb1).rd h.rdr.inr
 have H1 := Lib.hid (⟨h1, hb1, hx1, hr.keep (M := []) (Same.of_below hb1) (fun _ hk => by simp at hk), h⟩ : _ ∧ _ ∧ _ ∧ _ ∧ _)
 have HW1 := Lib.hid hw1
 obtain ⟨⟨q0, q1, q2, q3, q4, q5⟩, _, _, f4, f5⟩ := blk6 h1.rdr.rd
 have hg1 := h1.rdr.lt
 obtain ⟨c0, c1, c2, c3, c4, c5, c6, c7, c8⟩ := blk9 hx1
 have hlx := blk_lt hx1
 have hgw : g < w.heap.size := h.rdr.lt
 clear h h1 hb1 hx1 hw1 hr h0 hk0
 simp only [NQ.enc, NQ.kV, Ex.op, Ex.n, Ex.name, Ex.kids, List.length_nil]
 go_enter Tryz.func93, Tryz.ntmps93
 go_upto_region 1 with fail
 rw [HW1.out]
 go_upto_region 2 with fail
 go_cut [] (fun wx => ∃ g2 cap, XN l g A c b0 wx s nm pV (some ⟨g2, 0, none⟩) (n + 1) cap (qs ++ [⟨⟨kind, [], us, nn, al, .mk eo en enm ek⟩, none, 0, uA, uc, gA, gc, eA, ec⟩]) ∧ Same (g :: blks (.slice B n b) qs) w1 wx ∧ ∀ k, k ∈ blks (.slice (some ⟨g2, 0, none⟩) (n + 1) cap) (qs ++ [⟨⟨kind, [], us, nn, al, .mk eo en enm ek⟩, none, 0, uA, uc, gA, gc, eA, ec⟩]) → k ∈ blks (.slice B n b) qs ∨ w1.heap.size ≤ k)
 case first =>
  have hgn : g ∉ (Value.slice B n b).ownBlock.toList := fun hc => by have := (own_block H1.out.1.nodes.own g (by simpa using hc)).1; have := H1.out.1.gb; omega
  go_region_law ((refine step_node (by rfl) _ _ (by rfl) (by rfl) H1.out.1.nodes ⟨⟨kind, [], us, nn, al, .mk eo en enm ek⟩, none, 0, uA, uc, gA, gc, eA, ec⟩ rfl rfl H1.out.2.2.2.1 #[.int .i64 kind, .slice none 0 0, .slice uA us.length uc, .string nn, .slice gA al.length gc, .int .i64 eo, .int .i64 en, .string enm, .slice eA ek.length ec] (by rfl) _ (by rfl) (by omega) H1.out.1.lo ?_; intro g2 cap w6 hN hS hm; obtain ⟨⟨z0, z1, z2, z3, z4, z5⟩, _, _, y4, y5⟩ := blk6 (hS.heap hgn H1.out.1.rdr.rd); have hl6 := Nat.lt_of_lt_of_le hg1 hS.size))
  all_goals
   go_wp2_with fail
   go_meet
   have hL := H1.out.1.laid hN hS
   exact ⟨g2, cap, hL.1, hL.2, hm⟩
 case rest =>
  obtain ⟨g2, cap2, hN2, hS2, hm2⟩ := hcut
  obtain ⟨QS, hQS⟩ : ∃ x, qs ++ [⟨⟨kind, [], us, nn, al, .mk eo en enm ek⟩, none, 0, uA, uc, gA, gc, eA, ec⟩] = x := ⟨_, rfl⟩
  rw [hQS] at hN2 hm2
  have hql := hN2.nodes.len
  have hofq : of < QS.length := by omega
  obtain ⟨x, hx⟩ : ∃ x, QS[of] = x := ⟨_, rfl⟩
  have hxm : x ∈ QS := hx ▸ List.getElem_mem hofq
  have hcell := hN2.nodes.own.cells (g := g2) rfl (of * 9 + 1) x.kV (by rw [getElem?_flatMap_const (f := NQ.enc) (n := 9) (fun _ => rfl) QS of 1 hofq (by omega), hx]; rfl)
  have hfr := hN2.nodes.own.frozenAt (g := g2) (of * 9 + 1)
  have hkl : x.nd.kids.length ≤ 100 := by
   rw [← hQS] at hxm
   rcases List.mem_append.1 hxm with hq | hq
   ·exact hkb x hq
   ·simp at hq; subst hq; exact Nat.zero_le _
  have hown := hN2.nodes.kid x hxm
  have hne : g2 ∉ x.kV.ownBlock.toList := fun hc => blks_dist hN2.nodes.dist x hxm g2 (by simpa using hc) rfl
  have hgne : g ∉ x.kV.ownBlock.toList := fun hc => by have := (own_block hown g (by simpa using hc)).1; have := hN2.gb; omega
  obtain ⟨⟨q0, q1, q2, q3, q4, q5⟩, _, _, f4, f5⟩ := blk6 hN2.rdr.rd
  have hg2l := hN2.rdr.lt
  simp only [Addr.add, Nat.zero_add, if_neg (show ¬ of * 9 + 1 = 0 by omega)] at hcell
  have hlg2 := World.block_lt_of_cell? _ _ hcell
  obtain ⟨xA, xc, hkv⟩ : ∃ xA xc, x.kV = .slice xA x.nd.kids.length xc := ⟨_, _, rfl⟩
  have hofz : (of : Int) < (n : Int) + 1 := by omega
  have hof0 : (0 : Int) ≤ of := by omega
  have hnc := (hN2.nodes.own.1)
  rw [hkv] at hown hne hgne hcell
  have H2 := Lib.hid (⟨hN2, hS2, hm2, hQS, hx, hown, hkv, hkl⟩ : _ ∧ _ ∧ _ ∧ _ ∧ _ ∧ _ ∧ _ ∧ _)
  have HKE := Lib.hid (⟨hofq, hql⟩ : _ ∧ _)
  clear c0 c1 c2 c3 c4 c5 c6 c7 c8 hlx hg1 hN2 hS2 hm2 hQS hown hkv hx hxm hql
  obtain ⟨kl, hkl'⟩ : ∃ k, x.nd.kids.length = k := ⟨_, rfl⟩
  rw [hkl'] at hcell hkl
  have HKL := Lib.hid hkl'
  have hownk := H2.out.2.2.2.2.2.1
  rw [hkl'] at hne hgne
  clear hkl' hownk
  go_upto_region 3 with fail
  go_cut [] (fun wx => ∃ b' qs', XN l g A c b0 wx s nm pV (some ⟨g2, 0, none⟩) (n + 1) b' qs' ∧ qs'.map (·.nd) = (QS.map (·.nd)).modify of (fun x => { x with kids := x.kids ++ [(n : Int)] }) ∧ Same (g :: blks (.slice B n b) qs) w wx ∧ ∀ k, k ∈ blks (.slice (some ⟨g2, 0, none⟩) (n + 1) b') qs' → k ∈ blks (.slice B n b) qs ∨ w.heap.size ≤ k)
  case first =>
   go_region_law ((refine step_kid (v := .slice xA kl xc) (ks := x.nd.kids) (by rfl) _ _ (by rfl) (by rfl) (by have := H2.out.2.2.2.2.2.1; rw [HKL.out] at this ⊢; exact this) (n : Int) (by rfl) (by rw [HKL.out]; omega) H2.out.1.lo ?_; intro g6 cap6 w6 hgrow hown6 hat; rw [HKL.out] at hown6 ⊢; have hS6 : Same (Value.slice xA kl xc).ownBlock.toList _ w6 := ((Same.refl _ _).alloc _).grown hgrow (fun k hk => .inl (by rw [hk]; simp)); have hc6 := hS6.cell (p := ⟨g2, of * 9 + 1, none⟩) hne hcell; have hf6 := (World.frozen?_of_block (a := ⟨g2, of * 9 + 1, none⟩) (hS6.block g2 hlg2 hne)).trans hfr; have hl6 := World.block_lt_of_cell? w6 _ hc6; obtain ⟨⟨z0, z1, z2, z3, z4, z5⟩, _⟩ := blk6 (hS6.heap hgne H2.out.1.rdr.rd); have hl7 := Nat.lt_of_lt_of_le hg2l hS6.size))
   all_goals
    go_wp2_with fail
    go_meet
    have hq := H2.out.2.2.2.2.1
    have hv := H2.out.2.2.2.2.2.2.1
    have hkid := H2.out.1.kid (j := of) (num := (n : Int)) (g6 := g6) (cap := cap6) (ob := .cells #[.int .i64 n] 3) HKE.out.1 (by rw [hq, hv, HKL.out]; exact hgrow) (by rw [hq, HKL.out]; exact hown6) (by rw [hq, hv, HKL.out]; exact hat)
    have hmd := nd_modify HKE.out.1 (n : Int) g6 cap6
    simp only [hq, HKL.out] at hkid hmd
    have hb1 := H1.out.2.1
    have hz1 := hb1.size
    refine ⟨cap2, _, hkid.1, hmd, ?_, fun k hk => ?_⟩
    ·refine ((Same.of_below hb1).then_ H2.out.2.1).trans hkid.2.1 (fun x hx => ?_)
     rcases H2.out.2.2.1 x hx with h | h
     ·exact .inl (List.mem_cons_of_mem _ h)
     ·exact .inr (by omega)
    ·have hz2 := H2.out.2.1.size
     rcases hkid.2.2 k hk with h | h
     ·exact (H2.out.2.2.1 k h).imp id (fun h => by omega)
     ·exact .inr (by omega)
  case rest =>
   obtain ⟨b', qs', hN, hmd, hS, hm⟩ := hcut
   rw [← H2.out.2.2.2.1] at hmd
   have HF := Lib.hid (⟨hN, hmd, hS, hm⟩ : _ ∧ _ ∧ _ ∧ _)
   clear hN hmd hS hm
   go_wp2_with fail
   go_ret
   exact ⟨rfl, some ⟨g2, 0, none⟩, b', qs', HF.out.1, by rw [HF.out.2.1, List.map_append]; rfl, HF.out.2.2.1, HF.out.2.2.2⟩
end
end Go.Proofs.YtgcfjkfipkfijaaGreatDoor
namespace Go.Proofs.YtgcfjkfipkfijaaGreatDoor
open Go Go.RowKit Go.Lib
structure XP (l : List Tok) (g : Nat) (A : Option Addr) (c b0 : Nat) (w : World) (s : RS) (nm nv : Value) (B : Option Addr) (b : Nat) (ps : List Prm) : Prop where
 rdr : Xdr l g A c w s (nm, .slice B ps.length b, nv)
 rows : GrowB prmK 71 b0 (fun k => k < b0) w B ps.length b (ps.map prmE)
 gb : g < b0
 lo : b0 ≤ w.heap.size
section
variable {l : List Tok} {g c b0 b K : Nat} {A B : Option Addr} {s s' : RS} {w w' w0 : World} {nm nv : Value} {ps : List Prm} {p : Prm}
theorem XP.far {M : List Nat} (h : XP l g A c b0 w s nm nv B b ps) (hs : Same M w w') (hM : ∀ k, k ∈ M → g < k ∧ (Value.slice B ps.length b).ownBlock ≠ some k) : XP l g A c b0 w' s nm nv B b ps :=
 ⟨h.rdr.next (hs.heap (fun hc => by have := (hM g hc).1; omega) h.rdr.rd) hs (fun k hk => by have := (hM k hk).1; omega) h.rdr.inr, h.rows.keepP hs (fun k hk => (hM k hk).2), h.gb, Nat.le_trans h.lo hs.size⟩
theorem XP.step (h : XP l g A c b0 w s nm nv B b ps) (hs : Same [g] w w') (hr : XdP w' g A l.length c s' (nm, .slice B ps.length b, nv)) (hi : InR l s') : XP l g A c b0 w' s' nm nv B b ps := by
 have hg := h.gb
 exact ⟨h.rdr.next hr hs (fun k hk => by simp at hk; omega) hi, h.rows.keepP hs (fun k hk e => by simp at hk; have := (h.rows.blk k e).1; omega), hg, Nat.le_trans h.lo hs.size⟩
theorem XP.row (h : XP l g A c b0 w s nm nv B b ps) : RowF prmK (fun k => k < b0) w B b ps := by
 have h1 := h.rows.out (fun _ h => h) (fun q hq => by obtain ⟨p, _, rfl⟩ := List.mem_map.1 hq; rfl)
 rwa [List.map_map, show ((fun q : Prm × List Value => q.1) ∘ prmE) = id from rfl, List.map_id] at h1
theorem XP.laid {w6 : World} {g2 cap : Nat} (h : XP l g A c b0 w s nm nv B b ps) (hG : GrowB prmK 71 b0 (fun k => k < b0) w6 (some ⟨g2, 0, none⟩) (ps.length + 1) cap (ps.map prmE ++ [(p, [.string p.name, .int .i64 p.n, .bool p.scaled])])) (hS : Same (Value.slice B ps.length b).ownBlock.toList w w6) :
  XP l g A c b0 (w6.setCell ⟨g, 4, none⟩ (.slice (some ⟨g2, 0, none⟩) (ps.length + 1) cap)) s nm nv (some ⟨g2, 0, none⟩) cap (ps ++ [p]) ∧ Same (g :: (Value.slice B ps.length b).ownBlock.toList) w (w6.setCell ⟨g, 4, none⟩ (.slice (some ⟨g2, 0, none⟩) (ps.length + 1) cap)) := by
 have hg := h.gb
 have hno : ∀ k, k ∈ (Value.slice B ps.length b).ownBlock.toList → b0 ≤ k := fun k hk => (h.rows.blk k (by simpa using hk)).1
 have hgn : g ∉ (Value.slice B ps.length b).ownBlock.toList := fun hc => by have := hno g hc; omega
 have h6 := hS.heap hgn h.rdr.rd
 have hs : Same [g] w6 (w6.setCell ⟨g, 4, none⟩ (.slice (some ⟨g2, 0, none⟩) (ps.length + 1) cap)) := (Same.refl [g] w6).setCell (.inl (by simp)) _
 have hl : (ps ++ [p]).length = ps.length + 1 := by simp
 refine ⟨⟨⟨?_, (h.rdr.row.keep hS (fun k hk => by have := hno k hk; omega)).keep hs (fun k hk => by simp at hk; omega), h.rdr.inr⟩, ?_, hg, Nat.le_trans h.lo (Nat.le_trans hS.size hs.size)⟩, ?_⟩
 ·rw [hl]; exact blk_set h6 4 _
 ·rw [hl, List.map_append]
  have hG' : GrowB prmK 71 b0 (fun k => k < b0) w6 (some ⟨g2, 0, none⟩) (ps.length + 1) cap ((ps ++ [p]).map prmE) := by rw [List.map_append]; exact hG
  have := hG'.keepP hs (fun k hk e => by simp at hk; have := (hG.blk k e).1; omega)
  rwa [List.map_append] at this
 ·exact (hS.mono (fun x hx => List.mem_cons_of_mem _ hx)).then_ (hs.mono (fun x hx => by simp at hx; subst hx; simp))
structure XB (l : List Tok) (g : Nat) (A : Option Addr) (c b0 : Nat) (w0 w : World) (s : RS) (nm nv : Value) (B : Option Addr) (b : Nat) (ps : List Prm) (K : Nat) (p : Prm) : Prop where
 xp : XP l g A c b0 w s nm nv B b ps
 box : w.heap[K]? = some (.cells #[.string p.name, .int .i64 p.n, .bool p.scaled] 71 (0, 0))
 far : w0.heap.size ≤ K ∧ b0 ≤ w0.heap.size ∧ (Value.slice B ps.length b).ownBlock ≠ some K
 same : Same [g] w0 w
theorem XB.step (h : XB l g A c b0 w0 w s nm nv B b ps K p) (hs : Same [g] w w') (hr : XdP w' g A l.length c s' (nm, .slice B ps.length b, nv)) (hi : InR l s') : XB l g A c b0 w0 w' s' nm nv B b ps K p := by
 have hg := h.xp.gb
 have hf := h.far
 exact ⟨h.xp.step hs hr hi, hs.heap (by simp; omega) h.box, hf, h.same.then_ hs⟩
theorem XB.below (h : XB l g A c b0 w0 w s nm nv B b ps K p) (hb : Below w.heap.size w w') : XB l g A c b0 w0 w' s nm nv B b ps K p := h.step (Same.of_below hb) (h.xp.rdr.step hb).rd h.xp.rdr.inr
theorem XB.put (h : XB l g A c b0 w0 w s nm nv B b ps K p) (i : Nat) (x : Value) (q : Prm) (hx : (#[.string p.name, .int .i64 p.n, .bool p.scaled] : Array Value).setIfInBounds i x = #[.string q.name, .int .i64 q.n, .bool q.scaled]) : XB l g A c b0 w0 (w.setCell ⟨K, i, none⟩ x) s nm nv B b ps K q := by
 have hs : Same [K] w (w.setCell ⟨K, i, none⟩ x) := (Same.refl [K] w).setCell (.inl (by simp)) _
 have hg := h.xp.gb
 have hf := h.far
 exact ⟨h.xp.far hs (fun k hk => by simp at hk; subst hk; exact ⟨by omega, hf.2.2⟩), hx ▸ blk_set h.box i x, hf, h.same.setCell (p := ⟨K, i, none⟩) (.inr hf.1) x⟩
def YPrm (l : List Tok) (g : Nat) (A : Option Addr) (c b0 : Nat) (nm nv : Value) (B : Option Addr) (b : Nat) (ps : List Prm) (x : Prm × RS) (w : World) (r : Ending) (w' : World) : Prop :=
 r = .returned (.tuple #[]) ∧ ∃ B' b' qs, XP l g A c b0 w' x.2 nm nv B' b' qs ∧ (x.2.bad = 0 → qs = ps ++ [x.1]) ∧ qs.length ≤ 4 ∧ Same (g :: (Value.slice B ps.length b).ownBlock.toList) w w' ∧ ∀ k, (Value.slice B' qs.length b').ownBlock = some k → (Value.slice B ps.length b).ownBlock = some k ∨ w.heap.size ≤ k
theorem next_two {k : Tok} (h : nextT l s = k) (h2 : k.kind = 2) : s.bad = 0 ∧ tokAt l s.at_ = k := by
 unfold nextT at h
 by_cases hb : s.bad = 0
 ·rw [if_pos hb] at h; exact ⟨hb, h⟩
 ·rw [if_neg hb] at h; rw [← h] at h2; exact absurd h2 (by decide)
theorem prmN_bad {k : Tok} (h : nextT l s = k) (h2 : k.kind ≠ 2) (m : Bool) : (prmN l m s).2 = rFail 11 s ∧ (rFail 11 s).bad ≠ 0 := by
 have hb := rFail_bad (e := 11) (by decide) s
 have hd : (if s.bad = 0 ∧ (tokAt l s.at_).kind ≠ 2 then rFail 11 s else s) = rFail 11 s := by
  unfold nextT at h
  by_cases hb : s.bad = 0
  ·rw [if_pos hb] at h
   rw [if_pos ⟨hb, by rw [h]; exact h2⟩]
  ·rw [if_neg (fun hc => hb hc.1), fail_stop hb]
 refine ⟨?_, hb⟩
 unfold prmN
 simp only [hd]
 rw [if_neg hb]
theorem prmN_ok {k : Tok} (h : nextT l s = k) (h2 : k.kind = 2) (m : Bool) : prmN l m s = (if m = true then wrap64 (-k.n) else k.n, rPass s) := by
 obtain ⟨hb, ht⟩ := next_two h h2
 unfold prmN
 rw [ht]
 have hd : (if s.bad = 0 ∧ k.kind ≠ 2 then rFail 11 s else s) = s := if_neg (fun hc => hc.2 h2)
 simp only [hd]
 rw [if_pos hb, ht]
theorem prmP_bad {had : List ByteArray} {a : ByteArray × RS} {s7 : RS} {c8 : Bool × RS} {k : Tok} (ha : rName l had s = a) (h7 : rMust l ⟨#[58, 61]⟩ a.2 = s7) (h8 : rTakes l ⟨#[45]⟩ s7 = c8) (h : nextT l c8.2 = k) (h2 : k.kind ≠ 2) : (prmP l had s).2 = rFail 11 c8.2 ∧ (rFail 11 c8.2).bad ≠ 0 := by
 obtain ⟨h3, h4⟩ := prmN_bad h h2 c8.1
 refine ⟨?_, h4⟩
 unfold prmP
 simp only [ha, h7, h8]
 rw [h3, takes_stop h4]
 exact must_stop h4
end
end Go.Proofs.YtgcfjkfipkfijaaGreatDoor
