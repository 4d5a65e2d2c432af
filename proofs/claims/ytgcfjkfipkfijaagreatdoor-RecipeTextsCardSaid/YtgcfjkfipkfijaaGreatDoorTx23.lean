/- Part 23 of the proof of rtexts_card; no conditions. -/
import Derived.Test.YtgcfjkfipkfijaaGreatDoorTx22
import Derived.Test.YtgcfjkfipkfijaaGreatDoorTx16
namespace Go.Proofs.YtgcfjkfipkfijaaGreatDoor
open Go Go.RowKit Go.Lib
def rv (l : List UInt8) : List Int := (runes l).map (fun r => (r.1 : Int))
def wid : List (Nat × Nat) → Nat
 | [] => 0
 | r :: rs => r.2 + wid rs
def bw (l : List UInt8) (k : Nat) : Nat := wid ((runes l).take k)
theorem rv_nil : rv [] = [] := rfl
theorem rv_len (l : List UInt8) : (rv l).length = (runes l).length := by unfold rv; rw [List.length_map]
theorem rv_cons {l : List UInt8} (h : l ≠ []) : rv l = ((decodeL l).1 : Int) :: rv (l.drop (decodeL l).2) := by unfold rv; rw [runes_cons l h]; rfl
theorem bw_zero (l : List UInt8) : bw l 0 = 0 := by unfold bw; rw [List.take_zero]; rfl
theorem bw_succ {l : List UInt8} (h : l ≠ []) (k : Nat) : bw l (k + 1) = (decodeL l).2 + bw (l.drop (decodeL l).2) k := by unfold bw; rw [runes_cons l h, List.take_succ_cons]; rfl
theorem ne_of_rune {l : List UInt8} {k : Nat} (h : k < (runes l).length) : l ≠ [] := by
 intro e
 subst e
 simp [runes_nil] at h
theorem split_at : ∀ (k : Nat) (l : List UInt8), Vd l → k ≤ (runes l).length →
  bw l k ≤ l.length ∧ runes (l.take (bw l k)) = (runes l).take k ∧ runes (l.drop (bw l k)) = (runes l).drop k ∧ Vd (l.drop (bw l k))
 | 0, l, hv, _ => by rw [bw_zero]; exact ⟨Nat.zero_le _, by rw [List.take_zero, List.take_zero, runes_nil], by rw [List.drop_zero, List.drop_zero], by rw [List.drop_zero]; exact hv⟩
 | k + 1, l, hv, h => by
  have hl : l ≠ [] := ne_of_rune (k := k) h
  have hw := decodeL_width l
  have hle := decodeL_le l hl
  have hr := runes_cons l hl
  have h' : k ≤ (runes (l.drop (decodeL l).2)).length := by rw [hr] at h; simpa using h
  obtain ⟨i1, i2, i3, i4⟩ := split_at k (l.drop (decodeL l).2) (vd_rune hv hl) h'
  rw [List.length_drop] at i1
  rw [bw_succ hl]
  have hd := decodeL_take (l := l) (m := (decodeL l).2 + bw (l.drop (decodeL l).2) k) (by omega) (by omega) (vd_head hv hl)
  have hne : l.take ((decodeL l).2 + bw (l.drop (decodeL l).2) k) ≠ [] := by
   intro e
   have := congrArg List.length e
   rw [List.length_take, List.length_nil] at this
   omega
  refine ⟨by omega, ?_, ?_, ?_⟩
  ·rw [runes_cons _ hne, hd, List.drop_take, Nat.add_sub_cancel_left, i2, hr, List.take_succ_cons]
  ·rw [← List.drop_drop, i3, hr, List.drop_succ_cons]
  ·rw [← List.drop_drop]; exact i4
theorem bw_add {l : List UInt8} (hv : Vd l) (j k : Nat) (h : j ≤ (runes l).length) : bw l (j + k) = bw l j + bw (l.drop (bw l j)) k := by
 have h3 := (split_at j l hv h).2.2.1
 unfold bw at h3 ⊢
 rw [h3, List.take_add]
 generalize (runes l).take j = a
 generalize ((runes l).drop j).take k = b
 induction a with
 | nil => simp [wid]
 | cons x xs ih => simp only [List.cons_append, wid, ih]; omega
theorem rv_drop {l : List UInt8} (hv : Vd l) {k : Nat} (h : k ≤ (runes l).length) : rv (l.drop (bw l k)) = (rv l).drop k := by
 unfold rv
 rw [(split_at k l hv h).2.2.1, List.map_drop]
theorem bw_all {l : List UInt8} (hv : Vd l) : bw l (runes l).length = l.length := by
 obtain ⟨h1, _, h3, _⟩ := split_at _ l hv (Nat.le_refl _)
 rw [List.drop_length] at h3
 by_cases h : l.drop (bw l (runes l).length) = []
 ·have := congrArg List.length h
  rw [List.length_drop, List.length_nil] at this
  omega
 ·rw [runes_cons _ h] at h3
  cases h3
theorem rune_low {l : List UInt8} (hl : l ≠ []) (hv : Vd l) (h : (decodeL l).1 < 128) : (decodeL l).2 = 1 ∧ (l.getD 0 0).toNat = (decodeL l).1 := by
 have hd := vd_head hv hl
 rw [decodeL_N] at hd h ⊢
 rcases decodeN_shape l.length (l.getD 0 0).toNat (l.getD 1 0).toNat (l.getD 2 0).toNat (l.getD 3 0).toNat with ⟨c, e⟩ | ⟨c1, c2, c3, cv, e⟩ | ⟨c1, c2, c3, c4, cv, cs, e⟩ | ⟨c1, c2, c3, c4, c5, cv, cw, e⟩ | e
 ·rw [e]; exact ⟨rfl, rfl⟩
 ·rw [e] at h; simp only at h; omega
 ·rw [e] at h; simp only at h; omega
 ·rw [e] at h; simp only at h; omega
 ·exact absurd e hd
theorem rune_high {l : List UInt8} (hl : l ≠ []) (hv : Vd l) (h : 128 ≤ (decodeL l).1) : ∀ j, j < (decodeL l).2 → 128 ≤ (l.getD j 0).toNat := by
 intro j hj
 have hd := vd_head hv hl
 rw [decodeL_N] at hd h hj
 rcases decodeN_shape l.length (l.getD 0 0).toNat (l.getD 1 0).toNat (l.getD 2 0).toNat (l.getD 3 0).toNat with ⟨c, e⟩ | ⟨c1, c2, c3, cv, e⟩ | ⟨c1, c2, c3, c4, cv, cs, e⟩ | ⟨c1, c2, c3, c4, c5, cv, cw, e⟩ | e
 ·rw [e] at h; simp only at h; omega
 ·rw [e] at hj; simp only at hj
  have : j = 0 ∨ j = 1 := by omega
  rcases this with rfl | rfl <;> omega
 ·rw [e] at hj; simp only at hj
  have : j = 0 ∨ j = 1 ∨ j = 2 := by omega
  rcases this with rfl | rfl | rfl <;> omega
 ·rw [e] at hj; simp only at hj
  have : j = 0 ∨ j = 1 ∨ j = 2 ∨ j = 3 := by omega
  rcases this with rfl | rfl | rfl | rfl <;> omega
 ·exact absurd e hd
theorem rune_bytes {l : List UInt8} (hl : l ≠ []) (hv : Vd l) {x : UInt8} (hx : x.toNat < 128) (h : (decodeL l).1 ≠ x.toNat) : ∀ j, j < (decodeL l).2 → l.getD j 0 ≠ x := by
 intro j hj e
 by_cases h1 : (decodeL l).1 < 128
 ·obtain ⟨h2, h3⟩ := rune_low hl hv h1
  obtain rfl : j = 0 := by omega
  rw [e] at h3
  omega
 ·have := rune_high hl hv (by omega) j hj
  rw [e] at this
  omega
theorem idx_drop (x : UInt8) : ∀ (w : Nat) (l : List UInt8), w ≤ l.length → (∀ j, j < w → l.getD j 0 ≠ x) →
  (indexByte l x < 0 ∧ indexByte (l.drop w) x < 0) ∨ (0 ≤ indexByte (l.drop w) x ∧ indexByte l x = w + indexByte (l.drop w) x)
 | 0, l, _, _ => by
  rw [List.drop_zero]
  rcases Int.lt_or_le (indexByte l x) 0 with h | h
  ·exact .inl ⟨h, h⟩
  ·exact .inr ⟨h, by omega⟩
 | w + 1, [], h, _ => by simp at h
 | w + 1, b :: l, h, hn => by
  have hb : (b == x) = false := beq_eq_false_iff_ne.2 (by have := hn 0 (by omega); simpa using this)
  have ih := idx_drop x w l (by simpa using h) (fun j hj => by have := hn (j + 1) (by omega); simpa using this)
  rw [List.drop_succ_cons]
  have hge := indexByte_ge l x
  have hX : indexByte (b :: l) x = if indexByte l x < 0 then -1 else indexByte l x + 1 := by
   simp only [indexByte, hb]
   repeat' split
   all_goals first | omega | (simp_all; done) | (simp_all; omega)
  rw [hX]
  rcases ih with ⟨h1, h2⟩ | ⟨h1, h2⟩
  ·rw [if_pos h1]; exact .inl ⟨by decide, h2⟩
  ·rw [if_neg (by omega)]; exact .inr ⟨h1, by omega⟩
theorem idx_head (x : UInt8) (l : List UInt8) (hl : l ≠ []) (h : l.getD 0 0 = x) : indexByte l x = 0 := by
 obtain ⟨b, t, rfl⟩ := List.exists_cons_of_ne_nil hl
 have : b = x := by simpa using h
 subst this
 simp [indexByte]
def pastN : Bool → List Int → Nat
 | _, [] => 0
 | true, c :: cs => if c = 10 then 1 + pastN false cs else 1 + pastN true cs
 | false, c :: cs => if cls c = 6 then 1 + pastN true cs else if cls c = 1 then 1 + pastN false cs else 0
theorem pastN_le : ∀ (l : List Int) (b : Bool), pastN b l ≤ l.length
 | [], b => by cases b <;> simp [pastN]
 | c :: cs, true => by
  have h1 := pastN_le cs true
  have h2 := pastN_le cs false
  simp only [pastN, List.length_cons]
  split <;> omega
 | c :: cs, false => by
  have h1 := pastN_le cs true
  have h2 := pastN_le cs false
  simp only [pastN, List.length_cons]
  repeat' split
  all_goals omega
theorem cls_blank {r : Int} (h : cls r = 1) : r = 32 ∨ r = 9 ∨ r = 13 ∨ r = 10 := by
 unfold cls at h
 by_cases h1 : r = 32 ∨ r = 9 ∨ r = 13 ∨ r = 10
 ·exact h1
 rw [if_neg h1] at h
 repeat' split at h
 all_goals cases h
theorem cls_hash {r : Int} (h : cls r = 6) : r = 35 := by
 unfold cls at h
 by_cases h1 : r = 35
 ·exact h1
 rw [if_neg h1] at h
 repeat' split at h
 all_goals cases h
theorem remark : ∀ (n : Nat) (l : List UInt8), l.length ≤ n → Vd l →
  ∃ q, q ≤ (runes l).length ∧ bw l q = (if indexByte l 10 < 0 then l.length else (indexByte l 10).toNat) ∧ pastN true (rv l) = q + pastN false (rv (l.drop (bw l q))) := by
 intro n
 induction n with
 | zero => intro l h _; rw [List.eq_nil_of_length_eq_zero (by omega : l.length = 0)]; exact ⟨0, by simp, by rw [bw_zero]; rfl, by rw [bw_zero]; rfl⟩
 | succ n ih =>
  intro l h hv
  by_cases hl : l = []
  ·subst hl; exact ⟨0, by simp, by rw [bw_zero]; rfl, by rw [bw_zero]; rfl⟩
  ·have hw := decodeL_width l
   have hle := decodeL_le l hl
   by_cases h10 : (decodeL l).1 = 10
   ·obtain ⟨h1, h2⟩ := rune_low hl hv (by omega)
    have hi : indexByte l 10 = 0 := idx_head 10 l hl (UInt8.toNat_inj.1 (by rw [h2, h10]; rfl))
    refine ⟨0, Nat.zero_le _, by rw [bw_zero, hi]; rfl, ?_⟩
    rw [bw_zero, List.drop_zero, rv_cons hl, h10]
    simp only [pastN]
    rw [if_pos (by rfl), if_neg (by decide), if_pos (by decide)]
    omega
   ·obtain ⟨q, hq1, hq2, hq3⟩ := ih (l.drop (decodeL l).2) (by rw [List.length_drop]; have : 0 < l.length := List.length_pos_iff.2 hl; omega) (vd_rune hv hl)
    have hix := idx_drop 10 (decodeL l).2 l hle (rune_bytes hl hv (x := 10) (by decide) (by simpa using h10))
    refine ⟨q + 1, by rw [runes_cons l hl, List.length_cons]; omega, ?_, ?_⟩
    ·rw [bw_succ hl, hq2, List.length_drop]
     rcases hix with ⟨a, b⟩ | ⟨a, b⟩
     ·rw [if_pos a, if_pos b]; omega
     ·rw [if_neg (by omega), if_neg (by omega)]; omega
    ·rw [bw_succ hl, ← List.drop_drop, rv_cons hl]
     simp only [pastN]
     rw [if_neg (by omega), hq3]
     omega
theorem skip_runes : ∀ (n : Nat) (l : List UInt8) (f : Nat) (a : Int), l.length ≤ n → l.length < f → Vd l →
  skipF f l a = (l.drop (bw l (pastN false (rv l))), a + (pastN false (rv l) : Nat)) := by
 intro n
 induction n with
 | zero =>
  intro l f a h hf _
  obtain rfl : l = [] := List.eq_nil_of_length_eq_zero (by omega)
  rw [skipF_end rfl]
  simp [rv_nil, pastN]
 | succ n ih =>
  intro l f a h hf hv
  by_cases hl : l = []
  ·subst hl
   rw [skipF_end rfl]
   simp [rv_nil, pastN]
  ·obtain ⟨f, rfl⟩ : ∃ g, f = g + 1 := ⟨f - 1, by omega⟩
   have hw := decodeL_width l
   have hle := decodeL_le l hl
   have hpos : 0 < l.length := List.length_pos_iff.2 hl
   obtain ⟨c, t, hct⟩ := List.exists_cons_of_ne_nil hl
   have hc0 : l.getD 0 0 = c := by rw [hct]; rfl
   have hsk : skipN l = if cls c.toNat = 1 then 1 else if cls c.toNat = 6 then (if indexByte l 10 < 0 then l.length else (indexByte l 10).toNat) else 0 := by rw [hct]; rfl
   by_cases hlow : (decodeL l).1 < 128
   ·obtain ⟨h1, h2⟩ := rune_low hl hv hlow
    rw [hc0] at h2
    by_cases hb : cls ((decodeL l).1 : Int) = 1
    ·rw [h2, if_pos hb] at hsk
     have hn6 : ¬ cls ((decodeL l).1 : Int) = 6 := by rw [hb]; decide
     have hk : pastN false (rv l) = 1 + pastN false (rv (l.drop 1)) := by rw [rv_cons hl]; simp only [pastN]; rw [if_neg hn6, if_pos hb, h1]
     have hsp := split_at 1 l hv (by rw [runes_cons l hl]; simp)
     have hb1 : bw l 1 = 1 := by rw [bw_succ hl, bw_zero, h1]
     rw [hb1] at hsp
     rw [skipF_step (by rw [hsk]; decide), hsk, ih _ _ _ (by rw [List.length_drop]; omega) (by rw [List.length_drop]; omega) hsp.2.2.2, hsp.2.1, hk, bw_add hv 1 _ (by rw [runes_cons l hl]; simp), hb1, List.drop_drop]
     refine Prod.ext rfl ?_
     simp [runes_cons l hl]
     omega
    ·rw [h2, if_neg hb] at hsk
     by_cases h6 : cls ((decodeL l).1 : Int) = 6
     ·rw [if_pos h6] at hsk
      obtain ⟨q, hq1, hq2, hq3⟩ := remark _ l (Nat.le_refl _) hv
      have h35 := cls_hash h6
      have hk : pastN false (rv l) = q + pastN false (rv (l.drop (bw l q))) := by
       rw [← hq3, rv_cons hl]
       simp only [pastN]
       rw [if_pos h6, if_neg (by omega)]
      have hsp := split_at q l hv hq1
      rw [← hq2] at hsk
      have hq0 : bw l q ≠ 0 := by
       rw [hq2]
       have hix := idx_drop 10 (decodeL l).2 l hle (rune_bytes hl hv (x := 10) (by decide) (by simp; omega))
       rcases hix with ⟨a, b⟩ | ⟨a, b⟩
       ·rw [if_pos a]; omega
       ·rw [if_neg (by omega)]; omega
      rw [skipF_step (by rw [hsk]; exact hq0), hsk, ih _ _ _ (by rw [List.length_drop]; omega) (by rw [List.length_drop]; omega) hsp.2.2.2, hsp.2.1, hk, bw_add hv q _ hq1, List.drop_drop]
      refine Prod.ext rfl ?_
      rw [List.length_take]
      simp only
      omega
     ·rw [if_neg h6] at hsk
      have hk : pastN false (rv l) = 0 := by rw [rv_cons hl]; simp only [pastN]; rw [if_neg h6, if_neg hb]
      rw [skipF_end hsk, hk, bw_zero, List.drop_zero]
      simp
   ·have hch := rune_high hl hv (by omega) 0 (by omega)
    rw [hc0] at hch
    have n1 : ¬ cls (c.toNat : Int) = 1 := fun e => by have := cls_blank e; omega
    have n6 : ¬ cls (c.toNat : Int) = 6 := fun e => by have := cls_hash e; omega
    have m1 : ¬ cls ((decodeL l).1 : Int) = 1 := fun e => by have := cls_blank e; omega
    have m6 : ¬ cls ((decodeL l).1 : Int) = 6 := fun e => by have := cls_hash e; omega
    rw [if_neg n1, if_neg n6] at hsk
    have hk : pastN false (rv l) = 0 := by rw [rv_cons hl]; simp only [pastN]; rw [if_neg m6, if_neg m1]
    rw [skipF_end hsk, hk, bw_zero, List.drop_zero]
    simp
theorem skip_is (l : List UInt8) (a : Int) (hv : Vd l) : skip l a = (l.drop (bw l (pastN false (rv l))), a + (pastN false (rv l) : Nat)) := skip_runes _ l _ a (Nat.le_refl _) (Nat.lt_succ_self _) hv
end Go.Proofs.YtgcfjkfipkfijaaGreatDoor
namespace Go.Proofs.YtgcfjkfipkfijaaGreatDoor
open Go Go.RowKit Go.Lib
def wordC : List Int → Nat
 | [] => 0
 | c :: cs => if isWz c then 1 + wordC cs else 0
theorem wordC_le : ∀ l : List Int, wordC l ≤ l.length
 | [] => Nat.le_refl _
 | c :: cs => by
  have := wordC_le cs
  simp only [wordC, List.length_cons]
  split <;> omega
theorem wordC_runes : ∀ rs : List (Nat × Nat), wordN rs = wid (rs.take (wordC (rs.map (fun r => (r.1 : Int)))))
 | [] => rfl
 | r :: rs => by
  simp only [wordN, List.map_cons, wordC]
  have ih := wordC_runes rs
  by_cases h : isW r.1 = true
  ·rw [if_pos h, if_pos (show isWz (r.1 : Int) = true from h), Nat.add_comm 1, List.take_succ_cons, wid, ih]
  ·rw [if_neg h, if_neg (show ¬ isWz (r.1 : Int) = true from h)]; rfl
theorem word_is (l : List UInt8) : wordN (runes l) = bw l (wordC (rv l)) := wordC_runes _
def quoN : List Int → Nat
 | [] => 0
 | c :: cs => if c = 34 ∨ c = 10 then 0 else 1 + quoN cs
theorem idx_take (x : UInt8) : ∀ (l : List UInt8) (m : Nat), (0 ≤ indexByte l x ∧ indexByte l x < m → indexByte (l.take m) x = indexByte l x) ∧ (indexByte l x < 0 ∨ (m : Int) ≤ indexByte l x → indexByte (l.take m) x = -1)
 | [], m => ⟨fun h => absurd h.1 (by simp [indexByte]), fun _ => by simp [indexByte]⟩
 | b :: l, 0 => ⟨fun h => absurd h.2 (by omega), fun _ => by simp [indexByte]⟩
 | b :: l, m + 1 => by
  have ih := idx_take x l m
  have hge := indexByte_ge l x
  rw [List.take_succ_cons]
  simp only [indexByte]
  by_cases hb : (b == x) = true
  ·rw [if_pos hb, if_pos hb]
   exact ⟨fun _ => rfl, fun h => absurd h (by omega)⟩
  ·rw [if_neg hb, if_neg hb]
   by_cases h1 : indexByte l x = -1
   ·have h2 := ih.2 (.inl (by omega))
    rw [h1, h2, if_pos (by rfl)]
    exact ⟨fun h => absurd h.1 (by decide), fun _ => rfl⟩
   ·have hn1 : (indexByte l x == -1) = false := beq_eq_false_iff_ne.2 h1
    rw [hn1]
    simp only [Bool.false_eq_true, if_false]
    refine ⟨fun h => ?_, fun h => ?_⟩
    ·rw [ih.1 ⟨by omega, by omega⟩, hn1]; rfl
    ·rw [ih.2 (by omega)]; rfl
theorem cut_quote (t : List UInt8) : (0 ≤ indexByte t 34 ∧ (indexByte t 10 < 0 ∨ indexByte t 34 < indexByte t 10) → cut (cut t [10]).1 [34] = (t.take (indexByte t 34).toNat, (cut (cut t [10]).1 [34]).2.1, true)) ∧
  (¬ (0 ≤ indexByte t 34 ∧ (indexByte t 10 < 0 ∨ indexByte t 34 < indexByte t 10)) → (cut (cut t [10]).1 [34]).2.2 = false) := by
 have hge := indexByte_ge t 34
 have hge2 := indexByte_ge t 10
 have hu : ∃ m, (cut t [10]).1 = t.take m ∧ (indexByte t 10 < 0 → t.length ≤ m) ∧ (0 ≤ indexByte t 10 → (m : Int) = indexByte t 10) := by
  unfold cut
  rw [index_one]
  by_cases h : 0 ≤ indexByte t 10
  ·rw [if_pos h]; exact ⟨_, rfl, fun e => absurd h (by omega), fun _ => by omega⟩
  ·rw [if_neg h]; exact ⟨t.length, by simp, fun _ => Nat.le_refl _, fun e => absurd e h⟩
 obtain ⟨m, hm, hm1, hm2⟩ := hu
 rw [hm]
 have hit := idx_take 34 t m
 have hlt := (indexByte_le t 34).2
 constructor
 ·rintro ⟨h1, h2⟩
  have hlm : indexByte t 34 < m := by rcases h2 with h2 | h2; have := hm1 h2; omega; have := hm2 (by omega); omega
  have e := hit.1 ⟨h1, hlm⟩
  unfold cut
  rw [index_one, e, if_pos h1]
  refine Prod.ext ?_ (Prod.ext rfl rfl)
  show (t.take m).take _ = _
  rw [List.take_take, Nat.min_eq_left (by omega)]
 ·intro h
  have e := hit.2 (by
   rcases Int.lt_or_le (indexByte t 34) 0 with h1 | h1
   ·exact .inl h1
   ·rcases Int.lt_or_le (indexByte t 10) 0 with h2 | h2
    ·exact absurd ⟨h1, .inl h2⟩ h
    ·have := hm2 h2
     refine .inr ?_
     rcases Int.lt_or_le (indexByte t 34) (indexByte t 10) with h3 | h3
     ·exact absurd ⟨h1, .inr h3⟩ h
     ·omega)
  unfold cut
  rw [index_one, e, if_neg (by decide)]
theorem quote_runes : ∀ (n : Nat) (t : List UInt8), t.length ≤ n → Vd t →
  (quoN (rv t) < (rv t).length ∧ (rv t).getD (quoN (rv t)) 0 ≠ 10 → 0 ≤ indexByte t 34 ∧ (indexByte t 10 < 0 ∨ indexByte t 34 < indexByte t 10) ∧ (bw t (quoN (rv t)) : Int) = indexByte t 34) ∧
  (¬ (quoN (rv t) < (rv t).length ∧ (rv t).getD (quoN (rv t)) 0 ≠ 10) → ¬ (0 ≤ indexByte t 34 ∧ (indexByte t 10 < 0 ∨ indexByte t 34 < indexByte t 10))) := by
 intro n
 induction n with
 | zero =>
  intro t h _
  obtain rfl : t = [] := List.eq_nil_of_length_eq_zero (by omega)
  exact ⟨fun h => absurd h.1 (by simp [rv_nil, quoN]), fun _ h => absurd h.1 (by simp [indexByte])⟩
 | succ n ih =>
  intro t h hv
  by_cases ht : t = []
  ·subst ht
   exact ⟨fun h => absurd h.1 (by simp [rv_nil, quoN]), fun _ h => absurd h.1 (by simp [indexByte])⟩
  ·have hw := decodeL_width t
   have hle := decodeL_le t ht
   have hpos : 0 < t.length := List.length_pos_iff.2 ht
   have hge := indexByte_ge t 34
   have hge2 := indexByte_ge t 10
   rw [rv_cons ht]
   by_cases h34 : (decodeL t).1 = 34
   ·obtain ⟨h1, h2⟩ := rune_low ht hv (by omega)
    have hi : indexByte t 34 = 0 := idx_head 34 t ht (UInt8.toNat_inj.1 (by rw [h2, h34]; rfl))
    have hj : indexByte t 10 ≠ 0 := by
     have hix := idx_drop 10 (decodeL t).2 t hle (rune_bytes ht hv (x := 10) (by decide) (by rw [h34]; decide))
     omega
    have hq : quoN (((decodeL t).1 : Int) :: rv (t.drop (decodeL t).2)) = 0 := by simp only [quoN]; rw [if_pos (.inl (by omega))]
    rw [hq, bw_zero, hi]
    exact ⟨fun _ => ⟨by decide, by omega, rfl⟩, fun h => absurd ⟨by simp, by simp; omega⟩ h⟩
   ·by_cases h10 : (decodeL t).1 = 10
    ·obtain ⟨h1, h2⟩ := rune_low ht hv (by omega)
     have hi : indexByte t 10 = 0 := idx_head 10 t ht (UInt8.toNat_inj.1 (by rw [h2, h10]; rfl))
     have hq : quoN (((decodeL t).1 : Int) :: rv (t.drop (decodeL t).2)) = 0 := by simp only [quoN]; rw [if_pos (.inr (by omega))]
     rw [hq, hi]
     exact ⟨fun h => absurd h.2 (by simp; omega), fun _ h => by omega⟩
    ·have hq : quoN (((decodeL t).1 : Int) :: rv (t.drop (decodeL t).2)) = quoN (rv (t.drop (decodeL t).2)) + 1 := by simp only [quoN]; rw [if_neg (by omega), Nat.add_comm]
     have hx := idx_drop 34 (decodeL t).2 t hle (rune_bytes ht hv (x := 34) (by decide) (by simpa using h34))
     have hy := idx_drop 10 (decodeL t).2 t hle (rune_bytes ht hv (x := 10) (by decide) (by simpa using h10))
     have hr := ih (t.drop (decodeL t).2) (by rw [List.length_drop]; omega) (vd_rune hv ht)
     rw [hq, bw_succ ht, List.length_cons, List.getD_cons_succ]
     refine ⟨fun h => ?_, fun h => ?_⟩
     ·obtain ⟨a1, a2, a3⟩ := hr.1 ⟨by omega, h.2⟩
      refine ⟨by omega, by omega, by omega⟩
     ·have := hr.2 (fun e => h ⟨by omega, e.2⟩)
      omega
def quoX (l : List UInt8) : Tok × Nat × Int :=
 let t := l.drop 1
 let k := quoN (rv t)
 if ¬ (k < (rv t).length ∧ (rv t).getD k 0 ≠ 10) then (zTok, 0, 11)
 else if ((rv t).take k).any (fun r => decide (r < 32)) then (zTok, 0, 11)
 else if 20 < k then (zTok, 0, 2)
 else (⟨3, ⟨(t.take (bw t k)).toArray⟩, 0, 0⟩, k + 2, 0)
structure TokEq (l : List UInt8) (x : Tok × Nat × Int) (y : Tok × Int × Int) : Prop where
 tok : y.1 = x.1
 err : y.2.2 = x.2.2
 len : x.2.2 = 0 → y.2.1 = (bw l x.2.1 : Int) ∧ 1 ≤ x.2.1 ∧ x.2.1 ≤ (runes l).length
theorem TokEq.bad {l : List UInt8} {e : Int} {m : Nat} (h : e ≠ 0) {n : Int} : TokEq l (zTok, m, e) (zTok, n, e) := ⟨rfl, rfl, fun h' => absurd h' h⟩
theorem quoX_is {l : List UInt8} (hl : l ≠ []) (hv : Vd l) (h : (decodeL l).1 = 34) : TokEq l (quoX l) (textF l) := by
 obtain ⟨h1, _⟩ := rune_low hl hv (by omega)
 have hv1 : Vd (l.drop 1) := by have := vd_rune hv hl; rwa [h1] at this
 have hq := quote_runes _ (l.drop 1) (Nat.le_refl _) hv1
 have hc := cut_quote (l.drop 1)
 obtain ⟨k, hk⟩ : ∃ k, quoN (rv (l.drop 1)) = k := ⟨_, rfl⟩
 unfold quoX textF
 simp only
 rw [hk] at hq ⊢
 by_cases hf : k < (rv (l.drop 1)).length ∧ (rv (l.drop 1)).getD k 0 ≠ 10
 ·obtain ⟨a1, a2, a3⟩ := hq.1 hf
  have hc1 := hc.1 ⟨a1, a2⟩
  rw [if_neg (fun e => e hf), hc1]
  simp only
  rw [if_neg (show ¬ (true = false) by decide), show (indexByte (l.drop 1) 34).toNat = bw (l.drop 1) k by omega]
  have hkl : k ≤ (runes (l.drop 1)).length := by rw [← rv_len]; omega
  obtain ⟨s1, s2, _, _⟩ := split_at k (l.drop 1) hv1 hkl
  rw [s2]
  have hany : ((rv (l.drop 1)).take k).any (fun r => decide (r < 32)) = ((runes (l.drop 1)).take k).any (fun r => decide (r.1 < 32)) := by
   unfold rv
   rw [← List.map_take, List.any_map]
   congr 1
   funext r
   exact decide_eq_decide.2 (by simp; omega)
  rw [hany]
  by_cases hb : ((runes (l.drop 1)).take k).any (fun r => decide (r.1 < 32)) = true
  ·rw [if_pos hb, if_pos hb]; exact TokEq.bad (by decide)
  ·rw [if_neg hb, if_neg hb, List.length_take, Nat.min_eq_left hkl]
   by_cases h20 : 20 < k
   ·rw [if_pos h20, if_pos h20]; exact TokEq.bad (by decide)
   ·rw [if_neg h20, if_neg h20]
    refine ⟨rfl, rfl, fun _ => ⟨?_, by simp only; omega, ?_⟩⟩
    ·simp only [List.length_take]
     have e1 : bw l (k + 2) = 1 + (bw (l.drop 1) k + 1) := by
      rw [show k + 2 = 1 + (k + 1) by omega, bw_add hv 1 (k + 1) (by rw [runes_cons l hl]; simp)]
      have hb1 : bw l 1 = 1 := by rw [bw_succ hl, bw_zero, h1]
      rw [hb1, bw_add hv1 k 1 hkl]
      have hne : (l.drop 1).drop (bw (l.drop 1) k) ≠ [] := by
       have h3 := (split_at k (l.drop 1) hv1 hkl).2.2.1
       intro e
       rw [e, runes_nil] at h3
       have := congrArg List.length h3
       rw [List.length_drop, List.length_nil] at this
       have := hf.1
       rw [rv_len] at this
       omega
      have hvk := (split_at k (l.drop 1) hv1 hkl).2.2.2
      rw [bw_succ hne, bw_zero]
      have h34 : ((l.drop 1).drop (bw (l.drop 1) k)).getD 0 0 = 34 := by
       rw [getD_drop, Nat.add_zero]
       have hs := (indexByte_some (l := l.drop 1) (c := 34) (o := bw (l.drop 1) k) (by omega)).1
       rw [List.getD_eq_getElem?_getD, hs]; rfl
      obtain ⟨c, t, hct⟩ := List.exists_cons_of_ne_nil hne
      rw [hct] at h34 ⊢
      have hc34 : c = 34 := by simpa using h34
      rw [hc34, decodeL_ascii 34 t (by decide)]
     rw [e1, Nat.min_eq_left s1]
     omega
    ·simp only
     rw [runes_cons l hl, List.length_cons, h1]
     have := hf.1
     rw [rv_len] at this
     omega
 ·rw [if_pos hf, hc.2 (hq.2 hf), if_pos rfl]
  exact TokEq.bad (by decide)
end Go.Proofs.YtgcfjkfipkfijaaGreatDoor
namespace Go.Proofs.YtgcfjkfipkfijaaGreatDoor
open Go Go.RowKit Go.Lib
def numX : List UInt8 → Int → Int × Bool
 | [], n => (n, true)
 | c :: cs, n => if (c.toNat : Int) < 48 ∨ 57 < (c.toNat : Int) then (0, false) else if (9223372036854775807 - ((c.toNat : Int) - 48)).tdiv 10 < n then (0, false) else numX cs (10 * n + ((c.toNat : Int) - 48))
def numS (s : ByteArray) : Int × Bool := if s.size = 0 ∨ 1 < s.size ∧ s.data.toList.getD 0 0 = 48 then (0, false) else numX s.data.toList 0
def valN : List UInt8 → Nat → Nat
 | [], a => a
 | c :: cs, a => valN cs (10 * a + (c.toNat - 48))
theorem valN_ge : ∀ (l : List UInt8) (a : Nat), a * 10 ^ l.length ≤ valN l a
 | [], a => by simp [valN]
 | c :: cs, a => by
  have h := valN_ge cs (10 * a + (c.toNat - 48))
  rw [valN, List.length_cons, Nat.pow_succ]
  have h2 : a * (10 ^ cs.length * 10) ≤ (10 * a + (c.toNat - 48)) * 10 ^ cs.length := by
   rw [Nat.mul_comm (10 ^ cs.length) 10, ← Nat.mul_assoc, Nat.mul_comm a 10]
   exact Nat.mul_le_mul_right _ (Nat.le_add_right _ _)
  omega
theorem valN_le (l : List UInt8) (a : Nat) : a ≤ valN l a := by
 have h := valN_ge l a
 have h2 : a * 1 ≤ a * 10 ^ l.length := Nat.mul_le_mul_left _ (Nat.pos_of_ne_zero (by simp))
 omega
def Digs (l : List UInt8) : Prop := ∀ c, c ∈ l → 48 ≤ c.toNat ∧ c.toNat ≤ 57
theorem numX_digs : ∀ (l : List UInt8) (a : Nat), Digs l → a ≤ 9223372036854775807 → numX l (a : Int) = if 9223372036854775807 < valN l a then (0, false) else (((valN l a : Nat) : Int), true)
 | [], a, _, ha => by rw [numX, valN, if_neg (by omega)]
 | c :: cs, a, h, ha => by
  have hc := h c (by simp)
  have ih := numX_digs cs (10 * a + (c.toNat - 48)) (fun x hx => h x (by simp [hx]))
  rw [numX, valN, if_neg (by omega), Int.tdiv_eq_ediv_of_nonneg (by omega)]
  by_cases ho : 9223372036854775807 < 10 * a + (c.toNat - 48)
  ·have := valN_le cs (10 * a + (c.toNat - 48))
   rw [if_pos (by omega), if_pos (by omega)]
  ·rw [if_neg (by omega), show (10 * (a : Int) + ((c.toNat : Int) - 48)) = ((10 * a + (c.toNat - 48) : Nat) : Int) by omega, ih (by omega)]
theorem numX_bad : ∀ (l : List UInt8) (n : Int), ¬ Digs l → numX l n = (0, false)
 | [], n, h => absurd (fun c hc => by simp at hc) h
 | c :: cs, n, h => by
  rw [numX]
  by_cases hc : (c.toNat : Int) < 48 ∨ 57 < (c.toNat : Int)
  ·rw [if_pos hc]
  ·rw [if_neg hc]
   split
   ·rfl
   ·refine numX_bad cs _ (fun hd => h (fun x hx => ?_))
    rcases List.mem_cons.1 hx with rfl | hx
    ·omega
    ·exact hd x hx
theorem numF_digs : ∀ (l : List UInt8) (a : Nat), Digs l → numF a (runes l) = some (valN l a)
 | [], a, _ => rfl
 | c :: cs, a, h => by
  have hc := h c (by simp)
  rw [runes_cons _ (by simp), decodeL_ascii c cs (by omega), numF, List.drop_succ_cons, List.drop_zero, valN]
  rw [if_pos (by unfold cls; rw [if_neg (by omega), if_neg (by omega), if_neg (by omega), if_pos (by simp only; omega)])]
  exact numF_digs cs _ (fun x hx => h x (by simp [hx]))
theorem decodeL_one {l : List UInt8} (h : (decodeL l).1 < 128) : (decodeL l).2 = 1 := by
 rw [decodeL_N] at h ⊢
 rcases decodeN_shape l.length (l.getD 0 0).toNat (l.getD 1 0).toNat (l.getD 2 0).toNat (l.getD 3 0).toNat with ⟨c, e⟩ | ⟨c1, c2, c3, cv, e⟩ | ⟨c1, c2, c3, c4, cv, cs, e⟩ | ⟨c1, c2, c3, c4, c5, cv, cw, e⟩ | e
 ·rw [e]
 all_goals
  rw [e] at h
  simp only at h
  omega
theorem numF_bad : ∀ (l : List UInt8) (a : Nat), ¬ Digs l → numF a (runes l) = none
 | [], a, h => absurd (fun c hc => by simp at hc) h
 | c :: cs, a, h => by
  rw [runes_cons _ (by simp), numF]
  by_cases hc : cls ((decodeL (c :: cs)).1 : Int) = 3
  ·have h3 := cls_three hc
   have h1 := decodeL_one (l := c :: cs) (by omega)
   have h2 := decodeL_digit (l := c :: cs) (by omega)
   rw [if_pos hc, h1, List.drop_succ_cons, List.drop_zero]
   refine numF_bad cs _ (fun hd => h (fun x hx => ?_))
   rcases List.mem_cons.1 hx with rfl | hx
   ·have : (decodeL (x :: cs)).1 = x.toNat := h2
    omega
   ·exact hd x hx
  ·rw [if_neg hc]
theorem numS_is (s : ByteArray) : numS s = numB s := by
 unfold numS numB
 by_cases h0 : s.size = 0 ∨ 1 < s.size ∧ s.data.toList.getD 0 0 = 48
 ·rw [if_pos h0, if_pos (by rcases h0 with h | h; exact .inl h; exact .inr (.inr h))]
 ·rw [if_neg h0]
  by_cases hd : Digs s.data.toList
  ·have h1 := numX_digs s.data.toList 0 hd (by decide)
   rw [show ((0 : Nat) : Int) = 0 from rfl] at h1
   rw [h1]
   by_cases h19 : 19 < s.size
   ·rw [if_pos (show s.size = 0 ∨ 19 < s.size ∨ 1 < s.size ∧ s.data.toList.getD 0 0 = 48 from .inr (.inl h19)), if_pos]
    have hl : s.data.toList.length = s.size := size_data s
    obtain ⟨c, t, hct⟩ := List.exists_cons_of_ne_nil (l := s.data.toList) (by intro e; rw [e] at hl; simp at hl; omega)
    rw [hct] at hl hd h0 ⊢
    have hc := hd c (by simp)
    have hn : c.toNat ≠ 48 := fun e => h0 (.inr ⟨by omega, by simpa using UInt8.toNat_inj.1 (by rw [e]; rfl)⟩)
    have hv := valN_ge t (10 * 0 + (c.toNat - 48))
    rw [valN]
    have hp : 10 ^ 19 ≤ 10 ^ t.length := Nat.pow_le_pow_right (by decide) (by rw [List.length_cons] at hl; omega)
    have hm : 1 * 10 ^ 19 ≤ (10 * 0 + (c.toNat - 48)) * 10 ^ t.length := Nat.mul_le_mul (by omega) hp
    have h10 : (10 : Nat) ^ 19 = 10000000000000000000 := by decide
    omega
   ·rw [if_neg (show ¬ (s.size = 0 ∨ 19 < s.size ∨ 1 < s.size ∧ s.data.toList.getD 0 0 = 48) from fun e => by rcases e with e | e | e; exact h0 (.inl e); exact h19 e; exact h0 (.inr e)), numF_digs _ _ hd]
    rfl
  ·rw [numX_bad _ _ hd, numF_bad _ _ hd]
   split <;> rfl
def isTwo (s : ByteArray) : Bool := seq s ⟨#[60, 61]⟩ || (seq s ⟨#[62, 61]⟩ || (seq s ⟨#[61, 61]⟩ || (seq s ⟨#[33, 61]⟩ || seq s ⟨#[58, 61]⟩)))
def partX (l : List UInt8) (k : Nat) : ByteArray := ⟨(l.take (bw l k)).toArray⟩
def sigN (l : List UInt8) : Nat := if 1 < (rv l).length ∧ (rv l).getD 1 0 = 61 then (if isTwo (partX l 2) then 2 else 1) else 1
def tokX (l : List UInt8) : Tok × Nat × Int :=
 let c := cls ((rv l).getD 0 0)
 let n := wordC (rv l)
 if c = 2 then (if 12 < n then (zTok, 0, 2) else (⟨1, partX l n, 0, 0⟩, n, 0))
 else if c = 3 then (if (numS (partX l n)).2 then (⟨2, partX l n, (numS (partX l n)).1, 0⟩, n, 0) else (zTok, 0, 11))
 else if c = 5 then quoX l
 else if c = 4 then (⟨4, partX l (sigN l), 0, 0⟩, sigN l, 0)
 else (zTok, 0, 11)
theorem wordC_pos {l : List UInt8} (hl : l ≠ []) (h : cls ((decodeL l).1 : Int) = 2 ∨ cls ((decodeL l).1 : Int) = 3) : 1 ≤ wordC (rv l) := by
 rw [rv_cons hl]
 simp only [wordC]
 have : isWz ((decodeL l).1 : Int) = true := by unfold isWz; rcases h with h | h <;> rw [h] <;> rfl
 rw [if_pos this]
 omega
theorem wordC_room (l : List UInt8) : wordC (rv l) ≤ (runes l).length := by have := wordC_le (rv l); rwa [rv_len] at this
theorem cls_four {r : Int} (h : cls r = 4) : 32 < r ∧ r < 127 := by
 unfold cls at h
 repeat' split at h
 all_goals first | (cases h; done) | (rename_i h2; exact ⟨h2.1, h2.2.1⟩)
theorem two_index (c : UInt8) : isTwo ⟨#[c, 61]⟩ = decide (0 ≤ indexByte [60, 62, 61, 33, 58] c) := by
 have h : ((List.range 256).all fun k => isTwo ⟨#[k.toUInt8, 61]⟩ == decide (0 ≤ indexByte [60, 62, 61, 33, 58] k.toUInt8)) = true := by kernel_rfl
 have h2 := List.all_eq_true.1 h c.toNat (List.mem_range.2 c.toNat_lt)
 rw [beq_iff_eq, show c.toNat.toUInt8 = c by simp] at h2
 exact h2
theorem sig_is {l : List UInt8} (hl : l ≠ []) (hv : Vd l) (h : cls ((decodeL l).1 : Int) = 4) :
  (if 1 < l.length ∧ l.getD 1 0 = 61 ∧ 0 ≤ indexByte [60, 62, 61, 33, 58] (l.getD 0 0) then 2 else (decodeL l).2) = bw l (sigN l) ∧ 1 ≤ sigN l ∧ sigN l ≤ (runes l).length := by
 have h4 := cls_four h
 obtain ⟨h1, h2⟩ := rune_low hl hv (by omega)
 have hb1 : bw l 1 = 1 := by rw [bw_succ hl, bw_zero, h1]
 have hr1 : 1 ≤ (runes l).length := by rw [runes_cons l hl]; simp
 have hv1 : Vd (l.drop 1) := by have := vd_rune hv hl; rwa [h1] at this
 rw [h1]
 have key : (1 < (rv l).length ∧ (rv l).getD 1 0 = 61) ↔ (1 < l.length ∧ l.getD 1 0 = 61) := by
  rw [rv_cons hl, h1, List.length_cons, List.getD_cons_succ]
  by_cases ht : l.drop 1 = []
  ·rw [ht, rv_nil]
   have := congrArg List.length ht
   rw [List.length_drop, List.length_nil] at this
   exact ⟨fun e => by simp at e, fun e => by omega⟩
  ·have hpos : 0 < (l.drop 1).length := List.length_pos_iff.2 ht
   rw [List.length_drop] at hpos
   have hg : l.getD 1 0 = (l.drop 1).getD 0 0 := by rw [getD_drop]
   rw [rv_cons ht, hg]
   constructor
   ·rintro ⟨_, e⟩
    have e2 : ((decodeL (l.drop 1)).1 : Int) = 61 := e
    have e' : (decodeL (l.drop 1)).1 = 61 := by omega
    obtain ⟨_, h6⟩ := rune_low ht hv1 (by omega)
    exact ⟨by omega, UInt8.toNat_inj.1 (by rw [h6, e']; rfl)⟩
   ·rintro ⟨_, e⟩
    obtain ⟨c, t, hct⟩ := List.exists_cons_of_ne_nil ht
    rw [hct] at e ⊢
    have hc : c = 61 := by simpa using e
    rw [hc, decodeL_ascii 61 t (by decide)]
    exact ⟨by simp, by simp⟩
 unfold sigN
 by_cases hk : 1 < (rv l).length ∧ (rv l).getD 1 0 = 61
 ·have hk2 := key.1 hk
  rw [if_pos hk]
  have hne : l.drop 1 ≠ [] := by
   intro e
   have := congrArg List.length e
   rw [List.length_drop, List.length_nil] at this
   omega
  have hd61 : (decodeL (l.drop 1)) = (61, 1) := by
   obtain ⟨c, t, hct⟩ := List.exists_cons_of_ne_nil hne
   have e : (l.drop 1).getD 0 0 = 61 := by rw [getD_drop]; exact hk2.2
   rw [hct] at e ⊢
   have hc : c = 61 := by simpa using e
   rw [hc, decodeL_ascii 61 t (by decide)]
   rfl
  have hb2 : bw l 2 = 2 := by rw [bw_succ hl, h1, bw_succ hne, bw_zero, hd61]; rfl
  obtain ⟨c, t, hct⟩ := List.exists_cons_of_ne_nil hl
  obtain ⟨d, t2, hct2⟩ : ∃ d t2, t = d :: t2 := by
   rw [hct] at hk2
   exact List.exists_cons_of_ne_nil (by intro e; subst e; simp at hk2)
  subst hct2
  have hd : d = 61 := by have := hk2.2; rw [hct] at this; simpa using this
  have hp : partX l 2 = ⟨#[c, 61]⟩ := by unfold partX; rw [hb2, hct, hd]; rfl
  have hc0 : l.getD 0 0 = c := by rw [hct]; rfl
  rw [hp, two_index, hc0]
  have h2r : 2 ≤ (runes l).length := by rw [← rv_len]; omega
  by_cases hi : 0 ≤ indexByte [60, 62, 61, 33, 58] c
  ·rw [if_pos ⟨hk2.1, hk2.2, hi⟩, if_pos (decide_eq_true hi), hb2]
   exact ⟨rfl, by decide, h2r⟩
  ·rw [if_neg (fun e => hi e.2.2), if_neg (by simpa using hi), hb1]
   exact ⟨rfl, by decide, by omega⟩
 ·rw [if_neg hk, if_neg (fun e => hk (key.2 ⟨e.1, e.2.1⟩)), hb1]
  exact ⟨rfl, by decide, hr1⟩
theorem tokX_is {l : List UInt8} (hl : l ≠ []) (hv : Vd l) : TokEq l (tokX l) (tokF l) := by
 have hwi := word_is l
 have hwr := wordC_room l
 have h0 : (rv l).getD 0 0 = ((decodeL l).1 : Int) := by rw [rv_cons hl]; rfl
 unfold tokX tokF
 simp only
 rw [h0, hwi]
 by_cases h2 : cls ((decodeL l).1 : Int) = 2
 ·rw [if_pos h2, if_pos h2, (split_at _ l hv hwr).2.1, List.length_take, Nat.min_eq_left hwr]
  by_cases h12 : 12 < wordC (rv l)
  ·rw [if_pos h12, if_pos h12]; exact TokEq.bad (by decide)
  ·rw [if_neg h12, if_neg h12]
   exact ⟨rfl, rfl, fun _ => ⟨rfl, wordC_pos hl (.inl h2), hwr⟩⟩
 rw [if_neg h2, if_neg h2]
 by_cases h3 : cls ((decodeL l).1 : Int) = 3
 ·rw [if_pos h3, if_pos h3, numS_is]
  show TokEq l (if (numB (partX l (wordC (rv l)))).2 = true then _ else _) (if (numB (partX l (wordC (rv l)))).2 = true then _ else _)
  by_cases hn : (numB (partX l (wordC (rv l)))).2 = true
  ·rw [if_pos hn, if_pos hn]
   exact ⟨rfl, rfl, fun _ => ⟨rfl, wordC_pos hl (.inr h3), hwr⟩⟩
  ·rw [if_neg hn, if_neg hn]; exact TokEq.bad (by decide)
 rw [if_neg h3, if_neg h3]
 by_cases h5 : cls ((decodeL l).1 : Int) = 5
 ·rw [if_pos h5, if_pos h5]
  have h34 : (decodeL l).1 = 34 := by
   have : ((decodeL l).1 : Int) = 34 := by
    unfold cls at h5
    by_cases e : ((decodeL l).1 : Int) = 34
    ·exact e
    ·rw [if_neg e] at h5
     repeat' split at h5
     all_goals cases h5
   omega
  exact quoX_is hl hv h34
 rw [if_neg h5, if_neg h5]
 by_cases h4 : cls ((decodeL l).1 : Int) = 4
 ·rw [if_pos h4, if_pos h4]
  obtain ⟨e1, e2, e3⟩ := sig_is hl hv h4
  rw [e1]
  exact ⟨rfl, rfl, fun _ => ⟨rfl, e2, e3⟩⟩
 ·rw [if_neg h4, if_neg h4]; exact TokEq.bad (by decide)
theorem cutX_step {f : Nat} {l : List UInt8} {a : Int} {out : List Tok} (hl : l ≠ []) (hv : Vd l) (ho : out.length ≠ 2000) (he : (tokX l).2.2 = 0) :
  cutG (f + 1) l a out = cutG f ((l.drop (bw l (tokX l).2.1)).drop (bw (l.drop (bw l (tokX l).2.1)) (pastN false (rv (l.drop (bw l (tokX l).2.1)))))) (a + (tokX l).2.1 + (pastN false (rv (l.drop (bw l (tokX l).2.1))) : Nat)) (out ++ [{ (tokX l).1 with at_ := a }]) := by
 have h := tokX_is hl hv
 obtain ⟨h1, h2, h3⟩ := h.len he
 obtain ⟨_, s2, _, s4⟩ := split_at _ l hv h3
 rw [cutG_step hl ho (h.err.trans he), h.tok, h1, Int.toNat_natCast, s2, List.length_take, Nat.min_eq_left h3, skip_is _ _ s4]
theorem cutX_bad {f : Nat} {l : List UInt8} {a : Int} {out : List Tok} (hl : l ≠ []) (hv : Vd l) (ho : out.length ≠ 2000) (he : (tokX l).2.2 ≠ 0) : cutG (f + 1) l a out = ([], (tokX l).2.2, a) := by
 have h := tokX_is hl hv
 rw [cutG_bad hl ho (by rw [h.err]; exact he), h.err]
end Go.Proofs.YtgcfjkfipkfijaaGreatDoor
namespace Go.Proofs.YtgcfjkfipkfijaaGreatDoor
open Go Go.RowKit Go.Lib
def Big (j : Nat) (v : Int) : Prop := j = 1 ∧ v < 32 ∨ j = 2 ∧ v < 2048 ∨ j = 3 ∧ v < 131072 ∨ j = 4 ∧ v < 8388608
theorem big_room {j : Nat} {v : Int} (h : Big j v) : v < 8388608 := by unfold Big at h; omega
theorem big_next {j : Nat} {v c : Int} (h : Big j v) (hj : j ≤ 3) (hc : c < 192) : Big (j + 1) (64 * v + c - 128) := by unfold Big at h ⊢; omega
theorem byteZ_at (s : ByteArray) (j : Nat) (h : j < s.size) : byteZ s j = ((s[j]'h).toNat : Int) := by
 unfold byteZ
 rw [List.getD_eq_getElem?_getD, List.getElem?_eq_getElem (by simpa using h)]
 rfl
theorem runeR_bad {n least c : Int} (h : c < least ∨ 1114111 < c ∨ 55296 ≤ c ∧ c ≤ 57343) : runeR n least c = (0, 0) := if_pos h
theorem runeR_ok {n least c : Int} (h : ¬ (c < least ∨ 1114111 < c ∨ 55296 ≤ c ∧ c ≤ 57343)) : runeR n least c = (c, n) := if_neg h
set_option maxHeartbeats 4000000 in
set_option maxRecDepth 100000 in
theorem xrune_1 (s : ByteArray) (i : Nat) (w : World) (hi : i < s.size) (hs : s.size ≤ 4611686018427387904) (hlo : 192 ≤ byteZ s i) (hhi : byteZ s i < 224) :
  Calls Tryz.prog 86 #[.string s, .int .i64 i] w fun e w' => e = .returned (.tuple #[.int .i64 (runeG s i 1 128 (byteZ s i - 192)).1, .int .i64 (runeG s i 1 128 (byteZ s i - 192)).2]) ∧ w' = w := by
 have hiz : (i : Int) < s.size := by omega
 have hi0 : (0 : Int) ≤ i := by omega
 have hsz : (s.size : Int) ≤ 4611686018427387904 := by omega
 obtain ⟨c, hc⟩ : ∃ c, s[i] = c := ⟨_, rfl⟩
 have hb : byteZ s i = (c.toNat : Int) := by rw [byteZ_at s i hi, hc]
 rw [hb] at hlo hhi ⊢
 have HX : Hid (runeG s i 1 128 (c.toNat - 192) = if (s.size : Int) - i < 2 then (0, 0) else runeR 2 128 (tailB s i 1 1 (c.toNat - 192))) := Lib.hid rfl
 generalize runeG s i 1 128 (c.toNat - 192) = G at HX ⊢
 clear hb
 by_cases hn : (s.size : Int) - i < 2
 ·have HX2 : Hid (G = (0, 0)) := Lib.hid (by rw [HX.out, if_pos hn])
  go_enter Tryz.func86, Tryz.ntmps86
  go_wp2_with fail
  go_ret2
  exact ⟨by rw [HX2.out]; first | done | rfl, rfl⟩
 obtain ⟨ANS, hANS⟩ : ∃ a, tailB s i 1 1 (c.toNat - 192) = a := ⟨_, rfl⟩
 have HX2 : Hid (G = runeR 2 128 ANS) := Lib.hid (by rw [HX.out, if_neg hn, hANS])
 have HANS := Lib.hid hANS
 have hn' : 2 ≤ (s.size : Int) - i := by omega
 clear hn hANS
 go_enter Tryz.func86, Tryz.ntmps86
 go_wp2_with fail
 go_loopg [6, 9] 2 (fun k s6 s9 w' => ∃ (j : Nat) (v : Int), s9 = .int .i64 j ∧ s6 = .int .i64 v ∧ 1 ≤ j ∧ j ≤ 2 ∧ 2 - j < k ∧ 0 ≤ v ∧ Hid (Big j v) ∧ Hid (tailB s i (2 - j) j v = ANS) ∧ w' = w)
 case atStart => exact ⟨1, _, rfl, rfl, by omega, by omega, by omega, by omega, Lib.hid (by unfold Big; omega), HANS, rfl⟩
 case round =>
  obtain ⟨j, v, rfl, rfl, hj1, hj2, hjk, hv0, HBIG, hans, rfl⟩ := hrel
  obtain ⟨gk, rfl⟩ : ∃ k, gk = k + 1 := ⟨gk - 1, by omega⟩
  have hv9 := big_room HBIG.out
  by_cases hlt : j < 2
  ·have hltz : (j : Int) < 2 := by omega
   have hp : i + j < s.size := by omega
   obtain ⟨q, hq⟩ : ∃ q : Nat, q = i + j := ⟨_, rfl⟩
   have hqz : (i : Int) + (j : Int) = (q : Int) := by omega
   have hqs : q < s.size := by omega
   have hqs' : (q : Int) < s.size := by omega
   obtain ⟨d, hd⟩ : ∃ d, s[q] = d := ⟨_, rfl⟩
   have hdl := d.toNat_lt
   have hbd : byteZ s (i + j) = (d.toNat : Int) := by rw [← hq, byteZ_at s q hqs, hd]
   have ht := hans.out
   rw [show 2 - j = (1 - j) + 1 by omega, tailB, hbd] at ht
   by_cases hbad : (d.toNat : Int) < 128 ∨ 192 ≤ (d.toNat : Int)
   ·rw [if_pos hbad] at ht
    have HT : Hid (G = (0, 0)) := Lib.hid (by rw [HX2.out, ← ht]; exact runeR_bad (.inl (by decide)))
    clear ht hbd hq
    rcases hbad with hbad | hbad
    ·go_wp2_with fail
     go_ret2
     exact ⟨by rw [HT.out]; first | done | rfl, rfl⟩
    ·have hb2 : 128 ≤ (d.toNat : Int) := by omega
     go_wp2_with fail
     go_ret2
     exact ⟨by rw [HT.out]; first | done | rfl, rfl⟩
   ·rw [if_neg hbad] at ht
    have hb1 : 128 ≤ (d.toNat : Int) := by omega
    have hb2 : (d.toNat : Int) < 192 := by omega
    have HT := Lib.hid ht
    have HN := Lib.hid (big_next HBIG.out (by omega) hb2)
    clear ht hbd hbad hq
    go_wp2_with fail
    go_roundg gk
    case measure => omega
    case rel => exact ⟨j + 1, 64 * v + d.toNat - 128, by go_num, by go_num, by omega, by omega, by omega, by omega, HN, Lib.hid (by rw [show 2 - (j + 1) = 1 - j by omega]; exact HT.out), rfl⟩
  ·obtain rfl : j = 2 := by omega
   have ht := hans.out
   rw [show 2 - 2 = 0 from rfl, tailB] at ht
   subst ht
   by_cases hbad : v < 128 ∨ 1114111 < v ∨ 55296 ≤ v ∧ v ≤ 57343
   ·have HT : Hid (G = (0, 0)) := Lib.hid (by rw [HX2.out]; exact runeR_bad hbad)
    have hw : v < 128 ∨ (128 ≤ v ∧ 1114111 < v) ∨ (128 ≤ v ∧ v ≤ 1114111 ∧ 55296 ≤ v ∧ v ≤ 57343) := by omega
    clear hbad hans
    rcases hw with hw | ⟨hw, hw2⟩ | ⟨hw, hw2, hw3, hw4⟩
    all_goals
     go_wp2_with fail
     go_ret2
     exact ⟨by rw [HT.out]; first | done | rfl, rfl⟩
   ·have HT : Hid (G = (v, 2)) := Lib.hid (by rw [HX2.out]; exact runeR_ok hbad)
    have hw : 128 ≤ v ∧ v ≤ 1114111 ∧ (v < 55296 ∨ (55296 ≤ v ∧ 57343 < v)) := by omega
    obtain ⟨hw1, hw2, hw3⟩ := hw
    clear hbad hans
    rcases hw3 with hw3 | ⟨hw3, hw4⟩
    all_goals first | (exfalso; omega) | skip
    all_goals
     go_wp2_with fail
     go_ret2
     exact ⟨by rw [HT.out]; first | done | rfl, rfl⟩
set_option maxHeartbeats 4000000 in
set_option maxRecDepth 100000 in
theorem xrune_2 (s : ByteArray) (i : Nat) (w : World) (hi : i < s.size) (hs : s.size ≤ 4611686018427387904) (hlo : 224 ≤ byteZ s i) (hhi : byteZ s i < 240) :
  Calls Tryz.prog 86 #[.string s, .int .i64 i] w fun e w' => e = .returned (.tuple #[.int .i64 (runeG s i 2 2048 (byteZ s i - 224)).1, .int .i64 (runeG s i 2 2048 (byteZ s i - 224)).2]) ∧ w' = w := by
 have hiz : (i : Int) < s.size := by omega
 have hi0 : (0 : Int) ≤ i := by omega
 have hsz : (s.size : Int) ≤ 4611686018427387904 := by omega
 obtain ⟨c, hc⟩ : ∃ c, s[i] = c := ⟨_, rfl⟩
 have hb : byteZ s i = (c.toNat : Int) := by rw [byteZ_at s i hi, hc]
 rw [hb] at hlo hhi ⊢
 have HX : Hid (runeG s i 2 2048 (c.toNat - 224) = if (s.size : Int) - i < 3 then (0, 0) else runeR 3 2048 (tailB s i 2 1 (c.toNat - 224))) := Lib.hid rfl
 generalize runeG s i 2 2048 (c.toNat - 224) = G at HX ⊢
 clear hb
 by_cases hn : (s.size : Int) - i < 3
 ·have HX2 : Hid (G = (0, 0)) := Lib.hid (by rw [HX.out, if_pos hn])
  go_enter Tryz.func86, Tryz.ntmps86
  go_wp2_with fail
  go_ret2
  exact ⟨by rw [HX2.out]; first | done | rfl, rfl⟩
 obtain ⟨ANS, hANS⟩ : ∃ a, tailB s i 2 1 (c.toNat - 224) = a := ⟨_, rfl⟩
 have HX2 : Hid (G = runeR 3 2048 ANS) := Lib.hid (by rw [HX.out, if_neg hn, hANS])
 have HANS := Lib.hid hANS
 have hn' : 3 ≤ (s.size : Int) - i := by omega
 clear hn hANS
 go_enter Tryz.func86, Tryz.ntmps86
 go_wp2_with fail
 go_loopg [6, 9] 3 (fun k s6 s9 w' => ∃ (j : Nat) (v : Int), s9 = .int .i64 j ∧ s6 = .int .i64 v ∧ 1 ≤ j ∧ j ≤ 3 ∧ 3 - j < k ∧ 0 ≤ v ∧ Hid (Big j v) ∧ Hid (tailB s i (3 - j) j v = ANS) ∧ w' = w)
 case atStart => exact ⟨1, _, rfl, rfl, by omega, by omega, by omega, by omega, Lib.hid (by unfold Big; omega), HANS, rfl⟩
 case round =>
  obtain ⟨j, v, rfl, rfl, hj1, hj2, hjk, hv0, HBIG, hans, rfl⟩ := hrel
  obtain ⟨gk, rfl⟩ : ∃ k, gk = k + 1 := ⟨gk - 1, by omega⟩
  have hv9 := big_room HBIG.out
  by_cases hlt : j < 3
  ·have hltz : (j : Int) < 3 := by omega
   have hp : i + j < s.size := by omega
   obtain ⟨q, hq⟩ : ∃ q : Nat, q = i + j := ⟨_, rfl⟩
   have hqz : (i : Int) + (j : Int) = (q : Int) := by omega
   have hqs : q < s.size := by omega
   have hqs' : (q : Int) < s.size := by omega
   obtain ⟨d, hd⟩ : ∃ d, s[q] = d := ⟨_, rfl⟩
   have hdl := d.toNat_lt
   have hbd : byteZ s (i + j) = (d.toNat : Int) := by rw [← hq, byteZ_at s q hqs, hd]
   have ht := hans.out
   rw [show 3 - j = (2 - j) + 1 by omega, tailB, hbd] at ht
   by_cases hbad : (d.toNat : Int) < 128 ∨ 192 ≤ (d.toNat : Int)
   ·rw [if_pos hbad] at ht
    have HT : Hid (G = (0, 0)) := Lib.hid (by rw [HX2.out, ← ht]; exact runeR_bad (.inl (by decide)))
    clear ht hbd hq
    rcases hbad with hbad | hbad
    ·go_wp2_with fail
     go_ret2
     exact ⟨by rw [HT.out]; first | done | rfl, rfl⟩
    ·have hb2 : 128 ≤ (d.toNat : Int) := by omega
     go_wp2_with fail
     go_ret2
     exact ⟨by rw [HT.out]; first | done | rfl, rfl⟩
   ·rw [if_neg hbad] at ht
    have hb1 : 128 ≤ (d.toNat : Int) := by omega
    have hb2 : (d.toNat : Int) < 192 := by omega
    have HT := Lib.hid ht
    have HN := Lib.hid (big_next HBIG.out (by omega) hb2)
    clear ht hbd hbad hq
    go_wp2_with fail
    go_roundg gk
    case measure => omega
    case rel => exact ⟨j + 1, 64 * v + d.toNat - 128, by go_num, by go_num, by omega, by omega, by omega, by omega, HN, Lib.hid (by rw [show 3 - (j + 1) = 2 - j by omega]; exact HT.out), rfl⟩
  ·obtain rfl : j = 3 := by omega
   have ht := hans.out
   rw [show 3 - 3 = 0 from rfl, tailB] at ht
   subst ht
   by_cases hbad : v < 2048 ∨ 1114111 < v ∨ 55296 ≤ v ∧ v ≤ 57343
   ·have HT : Hid (G = (0, 0)) := Lib.hid (by rw [HX2.out]; exact runeR_bad hbad)
    have hw : v < 2048 ∨ (2048 ≤ v ∧ 1114111 < v) ∨ (2048 ≤ v ∧ v ≤ 1114111 ∧ 55296 ≤ v ∧ v ≤ 57343) := by omega
    clear hbad hans
    rcases hw with hw | ⟨hw, hw2⟩ | ⟨hw, hw2, hw3, hw4⟩
    all_goals
     go_wp2_with fail
     go_ret2
     exact ⟨by rw [HT.out]; first | done | rfl, rfl⟩
   ·have HT : Hid (G = (v, 3)) := Lib.hid (by rw [HX2.out]; exact runeR_ok hbad)
    have hw : 2048 ≤ v ∧ v ≤ 1114111 ∧ (v < 55296 ∨ (55296 ≤ v ∧ 57343 < v)) := by omega
    obtain ⟨hw1, hw2, hw3⟩ := hw
    clear hbad hans
    rcases hw3 with hw3 | ⟨hw3, hw4⟩
    all_goals first | (exfalso; omega) | skip
    all_goals
     go_wp2_with fail
     go_ret2
     exact ⟨by rw [HT.out]; first | done | rfl, rfl⟩
set_option maxHeartbeats 4000000 in
set_option maxRecDepth 100000 in
theorem xrune_3 (s : ByteArray) (i : Nat) (w : World) (hi : i < s.size) (hs : s.size ≤ 4611686018427387904) (hlo : 240 ≤ byteZ s i) (hhi : byteZ s i < 248) :
  Calls Tryz.prog 86 #[.string s, .int .i64 i] w fun e w' => e = .returned (.tuple #[.int .i64 (runeG s i 3 65536 (byteZ s i - 240)).1, .int .i64 (runeG s i 3 65536 (byteZ s i - 240)).2]) ∧ w' = w := by
 have hiz : (i : Int) < s.size := by omega
 have hi0 : (0 : Int) ≤ i := by omega
 have hsz : (s.size : Int) ≤ 4611686018427387904 := by omega
 obtain ⟨c, hc⟩ : ∃ c, s[i] = c := ⟨_, rfl⟩
 have hb : byteZ s i = (c.toNat : Int) := by rw [byteZ_at s i hi, hc]
 rw [hb] at hlo hhi ⊢
 have HX : Hid (runeG s i 3 65536 (c.toNat - 240) = if (s.size : Int) - i < 4 then (0, 0) else runeR 4 65536 (tailB s i 3 1 (c.toNat - 240))) := Lib.hid rfl
 generalize runeG s i 3 65536 (c.toNat - 240) = G at HX ⊢
 clear hb
 by_cases hn : (s.size : Int) - i < 4
 ·have HX2 : Hid (G = (0, 0)) := Lib.hid (by rw [HX.out, if_pos hn])
  go_enter Tryz.func86, Tryz.ntmps86
  go_wp2_with fail
  go_ret2
  exact ⟨by rw [HX2.out]; first | done | rfl, rfl⟩
 obtain ⟨ANS, hANS⟩ : ∃ a, tailB s i 3 1 (c.toNat - 240) = a := ⟨_, rfl⟩
 have HX2 : Hid (G = runeR 4 65536 ANS) := Lib.hid (by rw [HX.out, if_neg hn, hANS])
 have HANS := Lib.hid hANS
 have hn' : 4 ≤ (s.size : Int) - i := by omega
 clear hn hANS
 go_enter Tryz.func86, Tryz.ntmps86
 go_wp2_with fail
 go_loopg [6, 9] 4 (fun k s6 s9 w' => ∃ (j : Nat) (v : Int), s9 = .int .i64 j ∧ s6 = .int .i64 v ∧ 1 ≤ j ∧ j ≤ 4 ∧ 4 - j < k ∧ 0 ≤ v ∧ Hid (Big j v) ∧ Hid (tailB s i (4 - j) j v = ANS) ∧ w' = w)
 case atStart => exact ⟨1, _, rfl, rfl, by omega, by omega, by omega, by omega, Lib.hid (by unfold Big; omega), HANS, rfl⟩
 case round =>
  obtain ⟨j, v, rfl, rfl, hj1, hj2, hjk, hv0, HBIG, hans, rfl⟩ := hrel
  obtain ⟨gk, rfl⟩ : ∃ k, gk = k + 1 := ⟨gk - 1, by omega⟩
  have hv9 := big_room HBIG.out
  by_cases hlt : j < 4
  ·have hltz : (j : Int) < 4 := by omega
   have hp : i + j < s.size := by omega
   obtain ⟨q, hq⟩ : ∃ q : Nat, q = i + j := ⟨_, rfl⟩
   have hqz : (i : Int) + (j : Int) = (q : Int) := by omega
   have hqs : q < s.size := by omega
   have hqs' : (q : Int) < s.size := by omega
   obtain ⟨d, hd⟩ : ∃ d, s[q] = d := ⟨_, rfl⟩
   have hdl := d.toNat_lt
   have hbd : byteZ s (i + j) = (d.toNat : Int) := by rw [← hq, byteZ_at s q hqs, hd]
   have ht := hans.out
   rw [show 4 - j = (3 - j) + 1 by omega, tailB, hbd] at ht
   by_cases hbad : (d.toNat : Int) < 128 ∨ 192 ≤ (d.toNat : Int)
   ·rw [if_pos hbad] at ht
    have HT : Hid (G = (0, 0)) := Lib.hid (by rw [HX2.out, ← ht]; exact runeR_bad (.inl (by decide)))
    clear ht hbd hq
    rcases hbad with hbad | hbad
    ·go_wp2_with fail
     go_ret2
     exact ⟨by rw [HT.out]; first | done | rfl, rfl⟩
    ·have hb2 : 128 ≤ (d.toNat : Int) := by omega
     go_wp2_with fail
     go_ret2
     exact ⟨by rw [HT.out]; first | done | rfl, rfl⟩
   ·rw [if_neg hbad] at ht
    have hb1 : 128 ≤ (d.toNat : Int) := by omega
    have hb2 : (d.toNat : Int) < 192 := by omega
    have HT := Lib.hid ht
    have HN := Lib.hid (big_next HBIG.out (by omega) hb2)
    clear ht hbd hbad hq
    go_wp2_with fail
    go_roundg gk
    case measure => omega
    case rel => exact ⟨j + 1, 64 * v + d.toNat - 128, by go_num, by go_num, by omega, by omega, by omega, by omega, HN, Lib.hid (by rw [show 4 - (j + 1) = 3 - j by omega]; exact HT.out), rfl⟩
  ·obtain rfl : j = 4 := by omega
   have ht := hans.out
   rw [show 4 - 4 = 0 from rfl, tailB] at ht
   subst ht
   by_cases hbad : v < 65536 ∨ 1114111 < v ∨ 55296 ≤ v ∧ v ≤ 57343
   ·have HT : Hid (G = (0, 0)) := Lib.hid (by rw [HX2.out]; exact runeR_bad hbad)
    have hw : v < 65536 ∨ (65536 ≤ v ∧ 1114111 < v) ∨ (65536 ≤ v ∧ v ≤ 1114111 ∧ 55296 ≤ v ∧ v ≤ 57343) := by omega
    clear hbad hans
    rcases hw with hw | ⟨hw, hw2⟩ | ⟨hw, hw2, hw3, hw4⟩
    all_goals
     go_wp2_with fail
     go_ret2
     exact ⟨by rw [HT.out]; first | done | rfl, rfl⟩
   ·have HT : Hid (G = (v, 4)) := Lib.hid (by rw [HX2.out]; exact runeR_ok hbad)
    have hw : 65536 ≤ v ∧ v ≤ 1114111 ∧ (v < 55296 ∨ (55296 ≤ v ∧ 57343 < v)) := by omega
    obtain ⟨hw1, hw2, hw3⟩ := hw
    clear hbad hans
    rcases hw3 with hw3 | ⟨hw3, hw4⟩
    all_goals first | (exfalso; omega) | skip
    all_goals
     go_wp2_with fail
     go_ret2
     exact ⟨by rw [HT.out]; first | done | rfl, rfl⟩
set_option maxHeartbeats 4000000 in
set_option maxRecDepth 100000 in
theorem xrune_any (s : ByteArray) (i : Nat) (w : World) (hi : i < s.size) (hs : s.size ≤ 4611686018427387904) :
  Calls Tryz.prog 86 #[.string s, .int .i64 i] w fun e w' => e = .returned (.tuple #[.int .i64 (rune1 (Utf8.decode s i)).1, .int .i64 (rune1 (Utf8.decode s i)).2]) ∧ w' = w := by
 rw [← runeX_eq s i hi]
 have hiz : (i : Int) < s.size := by omega
 have hi0 : (0 : Int) ≤ i := by omega
 obtain ⟨c, hc⟩ : ∃ c, s[i] = c := ⟨_, rfl⟩
 have hb : byteZ s i = (c.toNat : Int) := by rw [byteZ_at s i hi, hc]
 have hclt := c.toNat_lt
 by_cases h1 : c.toNat < 128
 ·have h1z : (c.toNat : Int) < 128 := by omega
  have HX : Hid (runeX s i = ((c.toNat : Int), 1)) := Lib.hid (by unfold runeX; rw [hb, if_pos h1z])
  clear hb h1
  go_enter Tryz.func86, Tryz.ntmps86
  go_wp2_with fail
  go_ret2
  exact ⟨by rw [HX.out]; first | done | rfl, rfl⟩
 by_cases h2 : c.toNat < 192 ∨ 248 ≤ c.toNat
 ·have HX : Hid (runeX s i = (0, 0)) := Lib.hid (by unfold runeX; rw [hb, if_neg (by omega), if_neg (by omega), if_neg (by omega), if_neg (by omega)])
  have h3 : (128 ≤ (c.toNat : Int) ∧ (c.toNat : Int) < 192) ∨ 248 ≤ (c.toNat : Int) := by omega
  clear hb h1 h2
  rcases h3 with ⟨h3, h4⟩ | h3
  all_goals
   go_enter Tryz.func86, Tryz.ntmps86
   go_wp2_with fail
   go_ret2
   exact ⟨by rw [HX.out]; first | done | rfl, rfl⟩
 by_cases g1 : c.toNat < 224
 ·have HX : runeX s i = runeG s i 1 128 (byteZ s i - 192) := by unfold runeX; rw [hb, if_neg (by omega), if_pos (by omega)]
  rw [HX]
  exact xrune_1 s i w hi hs (by omega) (by omega)
 by_cases g2 : c.toNat < 240
 ·have HX : runeX s i = runeG s i 2 2048 (byteZ s i - 224) := by unfold runeX; rw [hb, if_neg (by omega), if_neg (by omega), if_pos (by omega)]
  rw [HX]
  exact xrune_2 s i w hi hs (by omega) (by omega)
 ·have HX : runeX s i = runeG s i 3 65536 (byteZ s i - 240) := by unfold runeX; rw [hb, if_neg (by omega), if_neg (by omega), if_neg (by omega), if_pos (by omega)]
  rw [HX]
  exact xrune_3 s i w hi hs (by omega) (by omega)
end Go.Proofs.YtgcfjkfipkfijaaGreatDoor
