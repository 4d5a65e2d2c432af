/- Brackets round a text: the lexer. No program in sight. Brackets round a text: the tree. No program in sight. -/
import Derived.Test.YtgaiheojlmebaaaDoorG4
import Derived.Lib.IndexBytes
/-! Brackets round a text: the lexer. No program in sight. -/
namespace Go.Proofs.YtgaiheojlmebaaaDoor
open Go Go.RowKit Go.Lib

def suf : List UInt8 := [10, 41]
theorem runes_suf : runes suf = [(10, 1), (41, 1)] := rfl
theorem vd_rune {l : List UInt8} (h : Vd l) (hl : l ≠ []) : Vd (l.drop (decodeL l).2) := fun x hx => h x (by rw [runes_cons l hl]; simp [hx])
theorem vd_head {l : List UInt8} (h : Vd l) (hl : l ≠ []) : decodeL l ≠ (65533, 1) := h _ (by rw [runes_cons l hl]; simp)
theorem getD_drop (l : List UInt8) (k i : Nat) : (l.drop k).getD i 0 = l.getD (k + i) 0 := by simp [List.getD, List.getElem?_drop]
theorem vd_ascii_at : ∀ (n : Nat) (l : List UInt8) (k : Nat), l.length ≤ n → Vd l → k < l.length → (l.getD k 0).toNat < 128 → Vd (l.drop k) := by
  intro n
  induction n with
  | zero => intro l k h _ hk; omega
  | succ n ih =>
    intro l k h hv hk ha
    by_cases k0 : k = 0
    · subst k0; exact hv
    · have hl : l ≠ [] := by intro e; subst e; simp at hk
      have hw := decodeL_width l
      have hle := decodeL_le l hl
      by_cases hkw : (decodeL l).2 ≤ k
      · have := ih (l.drop (decodeL l).2) (k - (decodeL l).2) (by rw [List.length_drop]; omega) (vd_rune hv hl) (by rw [List.length_drop]; omega) (by rw [getD_drop, show (decodeL l).2 + (k - (decodeL l).2) = k by omega]; exact ha)
        rwa [List.drop_drop, show (decodeL l).2 + (k - (decodeL l).2) = k by omega] at this
      · exfalso
        have hd := vd_head hv hl
        rw [decodeL_N] at hd hkw
        rcases decodeN_shape l.length (l.getD 0 0).toNat (l.getD 1 0).toNat (l.getD 2 0).toNat (l.getD 3 0).toNat with ⟨c, e⟩ | ⟨c1, c2, c3, cv, e⟩ | ⟨c1, c2, c3, c4, cv, cs, e⟩ | ⟨c1, c2, c3, c4, c5, cv, cw, e⟩ | e
        · rw [e] at hkw; simp only at hkw; omega
        · rw [e] at hkw; simp only at hkw
          obtain rfl : k = 1 := by omega
          omega
        · rw [e] at hkw; simp only at hkw
          have : k = 1 ∨ k = 2 := by omega
          rcases this with rfl | rfl <;> omega
        · rw [e] at hkw; simp only at hkw
          have : k = 1 ∨ k = 2 ∨ k = 3 := by omega
          rcases this with rfl | rfl | rfl <;> omega
        · exact hd e
theorem vd_word : ∀ (n : Nat) (l : List UInt8), l.length ≤ n → Vd l → Vd (l.drop (wordN (runes l))) := by
  intro n
  induction n with
  | zero => intro l h hv; rw [List.eq_nil_of_length_eq_zero (by omega : l.length = 0)]; exact fun x hx => by simp [runes_nil] at hx
  | succ n ih =>
    intro l h hv
    by_cases hl : l = []
    · subst hl; exact hv
    · have h0 : 0 < l.length := List.length_pos_iff.2 hl
      have hw := decodeL_width l
      rw [runes_cons l hl, wordN]
      split
      · rw [← List.drop_drop]
        exact ih _ (by rw [List.length_drop]; omega) (vd_rune hv hl)
      · exact hv
theorem wordN_suf : ∀ rs : List (Nat × Nat), wordN (rs ++ [(10, 1), (41, 1)]) = wordN rs
  | [] => rfl
  | r :: rs => by
    rw [List.cons_append, wordN, wordN, wordN_suf rs]
theorem index_app_nl : ∀ x : List UInt8, (0 ≤ indexByte x 10 → indexByte (x ++ suf) 10 = indexByte x 10) ∧ (indexByte x 10 < 0 → indexByte (x ++ suf) 10 = x.length)
  | [] => ⟨fun h => absurd h (by decide), fun _ => rfl⟩
  | b :: x => by
    have ih := index_app_nl x
    have hle := indexByte_le x 10
    by_cases hb : (b == 10) = true
    · simp [indexByte, hb]
    · have hb' : (b == 10) = false := by simpa using hb
      rw [List.cons_append]
      simp only [indexByte, hb', List.length_cons]
      by_cases h : 0 ≤ indexByte x 10
      · rw [ih.1 h]
        refine ⟨fun _ => rfl, fun h2 => ?_⟩
        exfalso
        revert h2
        repeat' split
        all_goals first | omega | (simp_all; done) | (simp_all; omega)
      · have h2 := ih.2 (by omega)
        rw [h2]
        refine ⟨fun h3 => ?_, fun _ => ?_⟩
        · exfalso
          revert h3
          repeat' split
          all_goals first | omega | (simp_all; done) | (simp_all; omega)
        · repeat' split
          all_goals first | omega | (simp_all; done) | (simp_all; omega)
theorem cut_nl (x : List UInt8) : (cut (x ++ suf) [10]).1 = (cut x [10]).1 := by
  unfold cut
  rw [index_one, index_one]
  have h := index_app_nl x
  have hle := indexByte_le x 10
  by_cases h0 : 0 ≤ indexByte x 10
  · rw [h.1 h0, if_pos h0, if_pos h0]
    exact List.take_append_of_le_length (by omega)
  · rw [h.2 (by omega), if_pos (by omega), if_neg h0]
    simp
theorem textF_suf {l : List UInt8} (hl : l ≠ []) : textF (l ++ suf) = textF l := by
  have h0 : 0 < l.length := List.length_pos_iff.2 hl
  unfold textF
  rw [List.drop_append_of_le_length (by omega), cut_nl]
theorem cls_big : cls ((65533 : Nat) : Int) = 0 := by decide
theorem tokF_suf {l : List UInt8} (hl : l ≠ []) (hv : Vd l) : tokF (l ++ suf) = tokF l := by
  have h0 : 0 < l.length := List.length_pos_iff.2 hl
  have hd := decodeL_app (r := suf) hl (vd_head hv hl)
  have hle := decodeL_le l hl
  have hwl := wordN_le' _ l (Nat.le_refl _)
  unfold tokF
  simp only
  rw [hd, textF_suf hl, runes_app _ l suf (Nat.le_refl _) hv, runes_suf, wordN_suf, List.take_append_of_le_length hwl]
  have hg0 : (l ++ suf).getD 0 0 = l.getD 0 0 := getD_app h0
  have hm : (if 1 < (l ++ suf).length ∧ (l ++ suf).getD 1 0 = 61 ∧ 0 ≤ indexByte [60, 62, 61, 33, 58] ((l ++ suf).getD 0 0) then 2 else (decodeL l).2) = (if 1 < l.length ∧ l.getD 1 0 = 61 ∧ 0 ≤ indexByte [60, 62, 61, 33, 58] (l.getD 0 0) then 2 else (decodeL l).2) := by
    rw [hg0]
    by_cases h1 : 1 < l.length
    · rw [getD_app h1]
      by_cases h2 : l.getD 1 0 = 61 ∧ 0 ≤ indexByte [60, 62, 61, 33, 58] (l.getD 0 0)
      · rw [if_pos ⟨by rw [List.length_append]; omega, h2⟩, if_pos ⟨h1, h2⟩]
      · rw [if_neg (fun h => h2 h.2), if_neg (fun h => h2 h.2)]
    · obtain ⟨c, rfl⟩ : ∃ c, l = [c] := List.length_eq_one_iff.1 (by omega)
      rw [if_neg (fun h => by have := h.2.1; simp [suf] at this), if_neg (fun h => h1 h.1)]
  rw [hm]
  have hml : (if 1 < l.length ∧ l.getD 1 0 = 61 ∧ 0 ≤ indexByte [60, 62, 61, 33, 58] (l.getD 0 0) then 2 else (decodeL l).2) ≤ l.length := by
    split
    · omega
    · exact hle
  rw [List.take_append_of_le_length hml]
theorem skipN_suf {l : List UInt8} (hl : l ≠ []) : skipN (l ++ suf) = skipN l := by
  obtain ⟨c, t, rfl⟩ := List.exists_cons_of_ne_nil hl
  rw [List.cons_append]
  simp only [skipN]
  by_cases h1 : cls c.toNat = 1
  · rw [if_pos h1, if_pos h1]
  · rw [if_neg h1, if_neg h1]
    by_cases h6 : cls c.toNat = 6
    · rw [if_pos h6, if_pos h6]
      have h := index_app_nl (c :: t)
      rw [List.cons_append] at h
      by_cases h0 : 0 ≤ indexByte (c :: t) 10
      · rw [h.1 h0]
        rw [if_neg (by omega), if_neg (by omega)]
      · rw [h.2 (by omega), if_neg (by omega), if_pos (by omega), Int.toNat_natCast]
    · rw [if_neg h6, if_neg h6]
theorem skipN_le (l : List UInt8) : skipN l ≤ l.length := by
  cases l with
  | nil => exact Nat.le_refl _
  | cons c t =>
    have := indexByte_le (c :: t) 10
    simp only [skipN]
    repeat' split
    all_goals simp only [List.length_cons] at *
    all_goals omega
/-- What is left of a text with the suffix, behind blanks. -/
def stS (l : List UInt8) : List UInt8 := if l = [] then [41] else l ++ suf
theorem skipF_suf : ∀ (n : Nat) (l : List UInt8) (a b : Int) (f g : Nat), l.length ≤ n → l.length < f → l.length + 2 < g → ∃ b', skipF g (l ++ suf) b = (stS (skipF f l a).1, b') := by
  intro n
  induction n with
  | zero =>
    intro l a b f g h hf hg
    obtain rfl := List.eq_nil_of_length_eq_zero (by omega : l.length = 0)
    obtain ⟨g, rfl⟩ : ∃ m, g = m + 2 := ⟨g - 2, by omega⟩
    rw [skipF_end (l := []) rfl]
    refine ⟨b + 1, ?_⟩
    show skipF (g + 1 + 1) [10, 41] b = _
    rw [skipF_step (by decide)]
    show skipF (g + 1) [41] (b + 1) = _
    rw [skipF_end (by decide)]
    rfl
  | succ n ih =>
    intro l a b f g h hf hg
    by_cases hl : l = []
    · exact ih l a b f g (by subst hl; simp) hf hg
    · by_cases hs : skipN l = 0
      · rw [skipF_end hs, skipF_end (by rw [skipN_suf hl]; exact hs)]
        exact ⟨b, by unfold stS; rw [if_neg hl]⟩
      · obtain ⟨f, rfl⟩ : ∃ m, f = m + 1 := ⟨f - 1, by omega⟩
        obtain ⟨g, rfl⟩ : ∃ m, g = m + 1 := ⟨g - 1, by omega⟩
        have hle := skipN_le l
        have hs2 : skipN (l ++ suf) ≠ 0 := by rw [skipN_suf hl]; exact hs
        rw [skipF_step hs, skipF_step hs2, skipN_suf hl, List.drop_append_of_le_length hle]
        exact ih _ _ _ f g (by rw [List.length_drop]; omega) (by rw [List.length_drop]; omega) (by rw [List.length_drop]; omega)
theorem vd_skip : ∀ (f : Nat) (l : List UInt8) (a : Int), Vd l → Vd (skipF f l a).1
  | 0, l, a, h => h
  | f + 1, l, a, h => by
    by_cases hs : skipN l = 0
    · rw [skipF_end hs]; exact h
    · rw [skipF_step hs]
      refine vd_skip f _ _ ?_
      cases l with
      | nil => exact absurd rfl hs
      | cons c t =>
        simp only [skipN] at hs ⊢
        by_cases h1 : cls c.toNat = 1
        · rw [if_pos h1]
          have hc : c.toNat < 128 := by
            unfold cls at h1
            by_cases hb : (c.toNat : Int) = 32 ∨ (c.toNat : Int) = 9 ∨ (c.toNat : Int) = 13 ∨ (c.toNat : Int) = 10
            · omega
            · rw [if_neg hb] at h1
              repeat' split at h1
              all_goals omega
          have := vd_rune h (by simp)
          rwa [decodeL_ascii c t hc] at this
        · rw [if_neg h1] at hs ⊢
          by_cases h6 : cls c.toNat = 6
          · rw [if_pos h6] at hs ⊢
            by_cases h0 : indexByte (c :: t) 10 < 0
            · rw [if_pos h0, List.drop_length]
              exact fun x hx => by simp [runes_nil] at hx
            · rw [if_neg h0]
              have hle := indexByte_le (c :: t) 10
              have hsome := indexByte_some (l := c :: t) (c := 10) (o := (indexByte (c :: t) 10).toNat) (by omega)
              exact vd_ascii_at _ _ _ (Nat.le_refl _) h (by omega) (by simp only [List.getD, hsome.1]; decide)
          · rw [if_neg h6] at hs
            exact absurd rfl hs
theorem vd_tok {l : List UInt8} (hl : l ≠ []) (hv : Vd l) (h : (tokF l).2.2 = 0) : Vd (l.drop (tokF l).2.1.toNat) := by
  have hnil : ∀ k, l.length ≤ k → Vd (l.drop k) := fun k hk => by rw [List.drop_of_length_le hk]; exact fun x hx => by simp [runes_nil] at hx
  have hone : ∀ k, k < l.length → (l.getD k 0).toNat < 128 → Vd (l.drop (k + 1)) := fun k hk ha => by
    have h1 := vd_ascii_at _ l k (Nat.le_refl _) hv hk ha
    have h2 : l.drop k ≠ [] := fun e => by have := congrArg List.length e; rw [List.length_drop, List.length_nil] at this; omega
    have h3 := vd_rune h1 h2
    obtain ⟨c, t, hct⟩ := List.exists_cons_of_ne_nil h2
    have hc : c.toNat < 128 := by
      have : (l.drop k).getD 0 0 = l.getD (k + 0) 0 := getD_drop l k 0
      rw [hct] at this
      simp only [List.getD_cons_zero, Nat.add_zero] at this
      rw [this]; exact ha
    rw [hct, decodeL_ascii c t hc, ← hct, List.drop_drop] at h3
    exact h3
  unfold tokF at h ⊢
  simp only at h ⊢
  by_cases h2 : cls (decodeL l).1 = 2
  · rw [if_pos h2] at h ⊢
    split at h
    · simp at h
    · rename_i h12
      rw [if_neg h12]
      simp only [Int.toNat_natCast]
      exact vd_word _ l (Nat.le_refl _) hv
  · rw [if_neg h2] at h ⊢
    by_cases h3 : cls (decodeL l).1 = 3
    · rw [if_pos h3] at h ⊢
      split at h
      · rename_i hb
        rw [if_pos hb]
        simp only [Int.toNat_natCast]
        exact vd_word _ l (Nat.le_refl _) hv
      · simp at h
    · rw [if_neg h3] at h ⊢
      by_cases h5 : cls (decodeL l).1 = 5
      · rw [if_pos h5] at h ⊢
        unfold textF at h ⊢
        simp only at h ⊢
        by_cases c1 : (cut (cut (l.drop 1) [10]).1 [34]).2.2 = false
        · rw [if_pos c1] at h; simp at h
        · rw [if_neg c1] at h ⊢
          split at h
          · simp at h
          · rename_i c2
            rw [if_neg c2]
            split at h
            · simp at h
            · rename_i c3
              rw [if_neg c3]
              simp only
              have hcut : ∀ (x : List UInt8) (b : UInt8), (cut x [b]).2.2 ≠ false → x.getD (cut x [b]).1.length 0 = b ∧ (cut x [b]).1.length < x.length := by
                intro x b hx
                unfold cut at hx ⊢
                rw [index_one] at hx ⊢
                have hle := indexByte_le x b
                by_cases h0 : 0 ≤ indexByte x b
                · rw [if_pos h0]
                  have hsome := indexByte_some (l := x) (c := b) (o := (indexByte x b).toNat) (by omega)
                  have hlen : (x.take (indexByte x b).toNat).length = (indexByte x b).toNat := by rw [List.length_take]; omega
                  simp only
                  rw [hlen]
                  exact ⟨by simp only [List.getD, hsome.1]; rfl, by omega⟩
                · rw [if_neg h0] at hx
                  exact absurd rfl hx
              have h6 := hcut _ _ c1
              have hpre : ∀ i, i < (cut (l.drop 1) [10]).1.length → (cut (l.drop 1) [10]).1.getD i 0 = l.getD (1 + i) 0 := by
                intro i hi
                unfold cut at hi ⊢
                split at hi
                · rename_i h0
                  rw [if_pos h0]
                  simp only [List.length_take] at hi
                  simp only
                  rw [getD_take (by omega), getD_drop]
                · rename_i h0
                  rw [if_neg h0]
                  simp only
                  rw [getD_drop]
              have hlen : (cut (l.drop 1) [10]).1.length ≤ l.length - 1 := by
                have := cut_len' (l.drop 1) [10]
                rwa [List.length_drop] at this
              have h7 := hpre _ h6.2
              rw [h6.1] at h7
              have h8 := hone (1 + (cut (cut (l.drop 1) [10]).1 [34]).1.length) (by omega) (by rw [← h7]; decide)
              rwa [show ((((cut (cut (l.drop 1) [10]).1 [34]).1.length : Nat) : Int) + 2).toNat = 1 + (cut (cut (l.drop 1) [10]).1 [34]).1.length + 1 by omega]
      · rw [if_neg h5] at h ⊢
        by_cases h4 : cls (decodeL l).1 = 4
        · rw [if_pos h4]
          simp only
          split
          · rename_i hc
            rw [Int.toNat_natCast]
            refine hone 1 hc.1 ?_
            rw [hc.2.1]
            decide
          · rw [Int.toNat_natCast]
            exact vd_rune hv hl
        · rw [if_neg h4] at h
          simp at h
end Go.Proofs.YtgaiheojlmebaaaDoor
/-! Brackets round a text: the tree. No program in sight. -/
namespace Go.Proofs.YtgaiheojlmebaaaDoor
open Go Go.RowKit Go.Lib

/-- Tokens but for their places. -/
def nrm (t : Tok) : Tok := { t with at_ := 0 }
theorem der_map {n : Nat} {e : Ex} {ts : List Tok} (h : Der n e ts) : ∀ us : List Tok, us.map nrm = ts.map nrm → Der n e us := by
  have hn : ∀ {t u : Tok}, nrm t = nrm u → t.kind = u.kind ∧ t.text = u.text ∧ t.n = u.n := by
    intro t u h
    unfold nrm at h
    injection h with h1 h2 h3
    exact ⟨h1, h2, h3⟩
  have hs : ∀ {t u : Tok} {op : Int}, nrm t = nrm u → Sgn op u → Sgn op t := by
    intro t u op h k
    obtain ⟨h1, h2, _⟩ := hn h
    exact ⟨h1.trans k.1, by rw [h2]; exact k.2⟩
  induction h with
  | @num t hk =>
    intro us hu
    obtain ⟨u, rfl⟩ : ∃ u, us = [u] := List.length_eq_one_iff.1 (by have := congrArg List.length hu; simpa using this)
    simp only [List.map_cons, List.map_nil, List.cons.injEq, and_true] at hu
    obtain ⟨h1, h2, h3⟩ := hn hu
    rw [← h3]
    exact .num (h1.trans hk)
  | @name t hk =>
    intro us hu
    obtain ⟨u, rfl⟩ : ∃ u, us = [u] := List.length_eq_one_iff.1 (by have := congrArg List.length hu; simpa using this)
    simp only [List.map_cons, List.map_nil, List.cons.injEq, and_true] at hu
    obtain ⟨h1, h2, h3⟩ := hn hu
    rw [← h2]
    exact .name (h1.trans hk)
  | @un op t e ts ho ht _ ih =>
    intro us hu
    rw [List.map_cons] at hu
    obtain ⟨u, us', rfl, h1, h2⟩ := List.map_eq_cons_iff.1 hu
    exact .un ho (hs h1 ht) (ih us' h2)
  | @par t v e ts ht hv _ ih =>
    intro us hu
    rw [List.map_cons, List.map_append, List.map_cons, List.map_nil] at hu
    obtain ⟨u, us', rfl, h1, h2⟩ := List.map_eq_cons_iff.1 hu
    obtain ⟨l1, l2, rfl, h3, h4⟩ := List.map_eq_append_iff.1 h2
    obtain ⟨x, l3, rfl, h5, h6⟩ := List.map_eq_cons_iff.1 h4
    obtain rfl := List.map_eq_nil_iff.1 h6
    obtain ⟨a1, a2, _⟩ := hn h1
    obtain ⟨b1, b2, _⟩ := hn h5
    exact .par (by unfold isOpen at *; rw [a1, a2]; exact ht) (by unfold isShut at *; rw [b1, b2]; exact hv) (ih l1 h3)
  | up h1 h5 _ ih => intro us hu; exact .up h1 h5 (ih us hu)
  | @bin n op t a b ts us h4 h16 hl h3 ht _ _ iha ihb =>
    intro vs hv
    rw [List.map_append, List.map_cons] at hv
    obtain ⟨l1, l2, rfl, h5, h6⟩ := List.map_eq_append_iff.1 hv
    obtain ⟨u, l3, rfl, h7, h8⟩ := List.map_eq_cons_iff.1 h6
    exact .bin h4 h16 hl h3 (hs h7 ht) (iha l1 h5) (ihb l3 h8)
  | @cmp op t a b ts us h9 h14 ht _ _ iha ihb =>
    intro vs hv
    rw [List.map_append, List.map_cons] at hv
    obtain ⟨l1, l2, rfl, h5, h6⟩ := List.map_eq_append_iff.1 hv
    obtain ⟨u, l3, rfl, h7, h8⟩ := List.map_eq_cons_iff.1 h6
    exact .cmp h9 h14 (hs h7 ht) (iha l1 h5) (ihb l3 h8)

theorem skip_le (l : List UInt8) (a : Int) (f : Nat) : (skipF f l a).1.length ≤ l.length := cutG_toks.skipN_drop l a f
theorem cut_suf : ∀ (f : Nat) (l : List UInt8) (a : Int) (out ks : List Tok) (a' : Int), l.length < f → Vd l → cutG f l a out = (out ++ ks ++ [⟨0, ⟨#[]⟩, 0, a'⟩], 0, 0) →
    ∀ (g : Nat) (b : Int) (out' : List Tok), l.length + 1 < g → out'.length + ks.length + 1 ≤ 1999 →
      ∃ us b1 b2, us.map nrm = ks.map nrm ∧ cutG g (stS l) b out' = (out' ++ us ++ [⟨4, ⟨#[41]⟩, 0, b1⟩, ⟨0, ⟨#[]⟩, 0, b2⟩], 0, 0)
  | 0, _, _, _, _, _, h, _, _ => by omega
  | f + 1, l, a, out, ks, a', h, hv, he => by
    intro g b out' hg ho'
    by_cases hl : l = []
    · subst hl
      rw [cutG, if_pos rfl] at he
      have hks : ks = [] := by
        have := congrArg (fun p => p.1.length) he
        simp only [List.length_append, List.length_cons, List.length_nil] at this
        exact List.eq_nil_of_length_eq_zero (by omega)
      subst hks
      obtain ⟨g, rfl⟩ : ∃ m, g = m + 2 := ⟨g - 2, by omega⟩
      refine ⟨[], b, b + 1, rfl, ?_⟩
      have hst : stS [] = [41] := rfl
      have ht : tokF [41] = (⟨4, ⟨#[41]⟩, 0, 0⟩, 1, 0) := tokF_sign (r := []) rfl (by decide) (by decide)
      have hsk : skip [41] b = ([41], b) := by unfold skip; exact skipF_end (by decide)
      have h1 : cutS (g + 1 + 1) [41] b out' = _ := cutS_tok (by simp) (by decide) (by simp at ho'; omega) (by rw [ht])
      rw [ht] at h1
      unfold cutS at h1
      rw [hsk] at h1
      rw [hst, h1]
      have h2 : cutS (g + 1) [] (b + 1) (out' ++ [⟨4, ⟨#[41]⟩, 0, b⟩]) = _ := cutS_nil
      unfold cutS at h2
      have h3 : runes [41] = [(41, 1)] := rfl
      show cutG (g + 1) (skip [] (b + ((runes [41]).length : Nat))).1 (skip [] (b + ((runes [41]).length : Nat))).2 (out' ++ [⟨4, ⟨#[41]⟩, 0, b⟩]) = _
      rw [h3]
      show cutG (g + 1) (skip [] (b + 1)).1 (skip [] (b + 1)).2 (out' ++ [⟨4, ⟨#[41]⟩, 0, b⟩]) = _
      rw [h2]
      simp
    · have htok := tokF_suf hl hv
      have hok := tokF_ok hl
      have hvt := vd_tok hl hv
      rw [cutG, if_neg hl] at he
      obtain ⟨⟨t0, z0, e0⟩, htk⟩ : ∃ p, tokF l = p := ⟨_, rfl⟩
      rw [htk] at htok hok hvt
      simp only [htk] at he hok hvt
      by_cases h2 : (if out.length = 2000 then (2 : Int) else e0) = 0
      · rw [if_neg (by simpa using h2)] at he
        have h3 : e0 = 0 := by
          by_cases ho : out.length = 2000
          · rw [if_pos ho] at h2; omega
          · rw [if_neg ho] at h2; exact h2
        have h4 := hok h3
        have h5 := hvt h3
        have hlen : (l.drop z0.toNat).length < f := by rw [List.length_drop]; omega
        obtain ⟨ta, hta⟩ : ∃ t, ({ t0 with at_ := a } : Tok) = t := ⟨_, rfl⟩
        obtain ⟨tb, htb⟩ : ∃ t, ({ t0 with at_ := b } : Tok) = t := ⟨_, rfl⟩
        have hnab : nrm tb = nrm ta := by rw [← hta, ← htb]; rfl
        obtain ⟨p, hp⟩ : ∃ p, skip (l.drop z0.toNat) (a + (runes (l.take z0.toNat)).length) = p := ⟨_, rfl⟩
        rw [hp, hta] at he
        have hpl : p.1.length ≤ (l.drop z0.toNat).length := by rw [← hp]; exact skip_le _ _ _
        have hpv : Vd p.1 := by rw [← hp]; exact vd_skip _ _ _ h5
        obtain ⟨ks', a'', g1, _, _⟩ := cutG_toks f p.1 p.2 (out ++ [ta]) (Nat.lt_of_le_of_lt hpl hlen) (by rw [he])
        have hks : ks = ta :: ks' := by
          rw [he] at g1
          have := List.append_inj' (s₁ := out ++ ks) (s₂ := out ++ [ta] ++ ks') (t₁ := [⟨0, ⟨#[]⟩, 0, a'⟩]) (t₂ := [⟨0, ⟨#[]⟩, 0, a''⟩]) g1 rfl
          simpa using this.1
        subst hks
        have he' : cutG f p.1 p.2 (out ++ [ta]) = (out ++ [ta] ++ ks' ++ [⟨0, ⟨#[]⟩, 0, a'⟩], 0, 0) := by rw [he]; simp
        obtain ⟨g, rfl⟩ : ∃ m, g = m + 1 := ⟨g - 1, by omega⟩
        have hst : stS l = l ++ suf := if_neg hl
        simp only [List.length_cons] at ho'
        obtain ⟨b', hb'⟩ := skipF_suf _ (l.drop z0.toNat) (a + (runes (l.take z0.toNat)).length) (b + (runes ((l ++ suf).take z0.toNat)).length) ((l.drop z0.toNat).length + 1) ((l.drop z0.toNat ++ suf).length + 1)
          (Nat.le_refl _) (by omega) (by simp [suf])
        have hb2 : skip (l.drop z0.toNat ++ suf) (b + (runes ((l ++ suf).take z0.toNat)).length) = (stS p.1, b') := by rw [← hp]; exact hb'
        obtain ⟨us, b1, b2, k1, k2⟩ := cut_suf f p.1 p.2 (out ++ [ta]) ks' a' (Nat.lt_of_le_of_lt hpl hlen) hpv he' g b' (out' ++ [tb]) (by rw [List.length_drop] at hpl; omega) (by simp; omega)
        refine ⟨tb :: us, b1, b2, by simp [k1, hnab], ?_⟩
        rw [hst, cutG, if_neg (by simp [hl])]
        simp only [htok]
        rw [if_neg (show out'.length ≠ 2000 by omega), h3, if_neg (by simp), List.drop_append_of_le_length (by omega), hb2, htb]
        simp only
        rw [k2]
        simp
      · rw [if_pos h2] at he
        exact absurd (congrArg (fun p => p.2.1) he) h2
/-- The text in brackets. -/
def brS (s : ByteArray) : ByteArray := ⟨#[40]⟩ ++ s ++ ⟨#[10, 41]⟩
theorem brS_data (s : ByteArray) : (brS s).data.toList = [40] ++ (s.data.toList ++ suf) := by
  unfold brS suf
  simp
theorem cut_br {s : ByteArray} {ks : List Tok} {a : Int} (hs : s.size ≤ 2000) (hv : Vd s.data.toList) (hc : cutB s = (ks ++ [⟨0, ⟨#[]⟩, 0, a⟩], 0, 0)) (hk : ks.length ≤ 1900) :
    ∃ t us u b, isOpen t = true ∧ isShut u = true ∧ us.map nrm = ks.map nrm ∧ cutB (brS s) = (t :: (us ++ [u]) ++ [⟨0, ⟨#[]⟩, 0, b⟩], 0, 0) := by
  have hsz := sz_data s
  have hbz : (brS s).size = s.size + 3 := by
    rw [← sz_data, brS_data]
    simp [suf]
  have hvb : Vd ([40] ++ (s.data.toList ++ suf)) := vd_app (vd_ascii (by simp)) (vd_app hv (vd_ascii (by simp [suf])))
  have hbad : ¬ 0 ≤ badF 0 (runes s.data.toList) := by rw [badF_ok _ 0 hv]; decide
  unfold cutB at hc
  rw [if_neg (by omega), if_neg hbad] at hc
  obtain ⟨b0, hb0⟩ := skipF_suf _ s.data.toList 0 1 (s.data.toList.length + 1) ((s.data.toList ++ suf).length + 1) (Nat.le_refl _) (by omega) (by simp [suf])
  obtain ⟨us, b1, b2, k1, k2⟩ := cut_suf (s.size + 1) (skip s.data.toList 0).1 (skip s.data.toList 0).2 [] ks a (Nat.lt_of_le_of_lt (skip_le _ _ _) (by omega)) (vd_skip _ _ _ hv) (by rw [List.nil_append]; exact hc)
    (s.size + 3) b0 [⟨4, ⟨#[40]⟩, 0, 0⟩] (Nat.lt_of_le_of_lt (Nat.add_le_add_right (skip_le _ _ _) 1) (by omega)) (by simp; omega)
  refine ⟨⟨4, ⟨#[40]⟩, 0, 0⟩, us, ⟨4, ⟨#[41]⟩, 0, b1⟩, b2, rfl, rfl, k1, ?_⟩
  unfold cutB
  rw [if_neg (by omega), brS_data, badF_ok _ 0 hvb, if_neg (by decide), hbz]
  have ht : tokF ([40] ++ (s.data.toList ++ suf)) = (⟨4, ⟨#[40]⟩, 0, 0⟩, 1, 0) := by
    show tokF (40 :: (s.data.toList ++ suf)) = _
    unfold tokF
    simp only
    rw [decodeL_ascii 40 (s.data.toList ++ suf) (by decide)]
    have h4 : cls (((40 : UInt8).toNat, 1).1 : Nat) = 4 := by decide
    rw [h4, if_neg (by decide), if_neg (by decide), if_neg (by decide), if_pos rfl, if_neg (fun h => by
      have := h.2.2
      exact absurd this (by simp only [List.getD_cons_zero]; decide))]
    rfl
  have h1 : cutS (s.size + 3 + 1) ([40] ++ (s.data.toList ++ suf)) 0 [] = _ := cutS_step (f := s.size + 3) (s := [40]) (r := s.data.toList ++ suf) (t := ⟨4, ⟨#[40]⟩, 0, 0⟩) (a := 0) (out := []) (by simp) (skipN_zero (c := 40) (by decide) (by decide)) (by simp) ht
  have h2 : cutS (s.size + 3) (s.data.toList ++ suf) 1 [⟨4, ⟨#[40]⟩, 0, 0⟩] = (⟨4, ⟨#[40]⟩, 0, 0⟩ :: (us ++ [⟨4, ⟨#[41]⟩, 0, b1⟩]) ++ [⟨0, ⟨#[]⟩, 0, b2⟩], 0, 0) := by
    unfold cutS
    have : skip (s.data.toList ++ suf) 1 = (stS (skip s.data.toList 0).1, b0) := hb0
    rw [this]
    simp only
    rw [k2]
    simp
  have h3 : cutS (s.size + 3 + 1) ([40] ++ (s.data.toList ++ suf)) 0 [] = cutS (s.size + 3) (s.data.toList ++ suf) 1 [⟨4, ⟨#[40]⟩, 0, 0⟩] := h1
  rw [← h2, ← h3]
  rfl
/-- Brackets round a text: the same tree, if there are not too many tokens. -/
theorem parse_br {s : ByteArray} (hs : s.size ≤ 2000) (h : (parseP s).2.1 = 0) :
    ((cutB s).1.length ≤ 63 → parseP (brS s) = ((parseP s).1, 0, 0)) ∧ (63 < (cutB s).1.length → (parseP (brS s)).2.1 = 2) := by
  obtain ⟨hv, ts, a, hc, hd, hl, _, _⟩ := parse_sound h
  obtain ⟨t, us, u, b, ho, hsh, hm, hcb⟩ := cut_br hs hv hc (by omega)
  have hlen : us.length = ts.length := by have := congrArg List.length hm; simpa using this
  have hd2 : Der 1 (parseP s).1 (t :: (us ++ [u])) := der_lift (by decide) (Der.par ho hsh (der_map hd us hm)) (by decide) (by decide)
  have hcl : (cutB s).1.length = ts.length + 1 := by rw [hc]; simp
  rw [hcl]
  constructor
  · intro h63
    exact parse_der hcb hd2 (by simp; omega)
  · intro h63
    have htk : (takeP (t :: (us ++ [u]) ++ [⟨0, ⟨#[]⟩, 0, b⟩]) 0).2.1 = 2 := takeP_long hd2 (fun j hj => by rw [Int.zero_add]; exact tokAt_app _ _ j hj) (by simp; omega) (by simp; omega)
    obtain ⟨L, hL⟩ : ∃ L, t :: (us ++ [u]) ++ [⟨0, ⟨#[]⟩, 0, b⟩] = L := ⟨_, rfl⟩
    rw [hL] at hcb htk
    unfold parseP
    simp [hcb, htk]
end Go.Proofs.YtgaiheojlmebaaaDoor
