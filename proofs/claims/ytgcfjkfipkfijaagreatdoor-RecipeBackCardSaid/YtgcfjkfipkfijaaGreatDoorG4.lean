/- The lexer on words, numbers and signs that stand ahead of something else. No program in sight. A tree's text is lexed and parsed as that tree. No program in sight. Printed and parsed again: the same tree. What is parsed may be, and has no more tokens when it is printed. No program in sight. -/
import Derived.Test.YtgcfjkfipkfijaaGreatDoorG1
import Derived.Test.YtgcfjkfipkfijaaGreatDoorTokB
import Derived.Test.YtgcfjkfipkfijaaGreatDoorPure4
import Derived.Lib.ItoaNum
/-! The lexer on words, numbers and signs that stand ahead of something else. No program in sight. -/
namespace Go.Proofs.YtgcfjkfipkfijaaGreatDoor
open Go Go.RowKit Go.Lib

theorem sz_data (s : ByteArray) : s.data.toList.length = s.size := by simp
def cutS (f : Nat) (l : List UInt8) (a : Int) (out : List Tok) : List Tok × Int × Int := cutG f (skip l a).1 (skip l a).2 out
theorem cutS_tok {f : Nat} {l : List UInt8} {a : Int} {out : List Tok} (hl : l ≠ []) (hs : skipN l = 0) (ho : out.length ≠ 2000) (he : (tokF l).2.2 = 0) :
    cutS (f + 1) l a out = cutS f (l.drop (tokF l).2.1.toNat) (a + (runes (l.take (tokF l).2.1.toNat)).length) (out ++ [{ (tokF l).1 with at_ := a }]) := by
  have h : skip l a = (l, a) := by unfold skip; exact skipF_end hs
  unfold cutS
  rw [h]
  simp only [cutG, if_neg hl, if_neg ho, he, ne_eq, not_true_eq_false, if_false]
theorem cutS_nil {f : Nat} {a : Int} {out : List Tok} : cutS (f + 1) [] a out = (out ++ [⟨0, ⟨#[]⟩, 0, a⟩], 0, 0) := by
  have h : skip [] a = ([], a) := by unfold skip; exact skipF_end rfl
  unfold cutS
  rw [h]
  simp only [cutG, if_true]
theorem skipN_blank {c : UInt8} {l : List UInt8} (h : c = 32 ∨ c = 10) : skipN (c :: l) = 1 := by
  rcases h with rfl | rfl <;> rfl
theorem cutS_blank {f : Nat} {c : UInt8} {l : List UInt8} {a : Int} {out : List Tok} (h : c = 32 ∨ c = 10) : cutS f (c :: l) a out = cutS f l (a + 1) out := by
  have h1 := skipN_blank (l := l) h
  have h2 : skip (c :: l) a = skip l (a + 1) := by
    unfold skip
    rw [List.length_cons, skipF_step (by rw [h1]; decide), h1]
    have h3 : runes [c] = [(c.toNat, 1)] := by
      rcases h with rfl | rfl <;> rfl
    simp only [List.drop_succ_cons, List.drop_zero, List.take_succ_cons, List.take_zero, h3, List.length_cons, List.length_nil]
    rfl
  unfold cutS
  rw [h2]
/-- What ends a word. -/
def Delim (r : List UInt8) : Prop := r = [] ∨ ∃ c t, r = c :: t ∧ (c = 32 ∨ c = 41 ∨ c = 10)
theorem decodeN_grow {n m b0 b1 b2 b3 c1 c2 c3 : Nat} (hm : n ≤ m) (h1 : 1 < n → c1 = b1) (h2 : 2 < n → c2 = b2) (h3 : 3 < n → c3 = b3) (hv : decodeN n b0 b1 b2 b3 ≠ (65533, 1)) : decodeN m b0 c1 c2 c3 = decodeN n b0 b1 b2 b3 := by
  rcases decodeN_shape n b0 b1 b2 b3 with ⟨c, e⟩ | ⟨c1', c2', c3', cv, e⟩ | ⟨c1', c2', c3', c4', cv, cs, e⟩ | ⟨c1', c2', c3', c4', c5', cv, cw, e⟩ | e
  · rw [e]; unfold decodeN; rw [if_pos c]
  · obtain rfl := h1 c2'
    rw [e]; unfold decodeN; rw [if_neg (by omega), if_pos ⟨c1', by omega, c3'⟩, if_pos (by omega)]
  · obtain rfl := h1 (by omega)
    obtain rfl := h2 (by omega)
    rw [e]; unfold decodeN; rw [if_neg (by omega), if_neg (by omega), if_pos ⟨c1', ⟨by omega, c3'⟩, by omega, c4'⟩, if_pos (by omega)]
  · obtain rfl := h1 (by omega)
    obtain rfl := h2 (by omega)
    obtain rfl := h3 (by omega)
    rw [e]; unfold decodeN; rw [if_neg (by omega), if_neg (by omega), if_neg (by omega), if_pos ⟨c1', ⟨by omega, c3'⟩, ⟨by omega, c4'⟩, by omega, c5'⟩, if_pos (by omega)]
  · exact absurd e hv
theorem getD_app {w r : List UInt8} {i : Nat} (h : i < w.length) : (w ++ r).getD i 0 = w.getD i 0 := by
  simp [List.getD, List.getElem?_append_left h]
theorem decodeL_app {w r : List UInt8} (hw : w ≠ []) (hv : decodeL w ≠ (65533, 1)) : decodeL (w ++ r) = decodeL w := by
  have h0 : 0 < w.length := List.length_pos_iff.2 hw
  rw [decodeL_N] at hv
  rw [decodeL_N, decodeL_N, getD_app h0]
  exact decodeN_grow (by rw [List.length_append]; omega) (fun h => by rw [getD_app h]) (fun h => by rw [getD_app h]) (fun h => by rw [getD_app h]) hv
/-- No byte of a text is no rune's. -/
def Vd (w : List UInt8) : Prop := ∀ x, x ∈ runes w → x ≠ (65533, 1)
theorem runes_app : ∀ (n : Nat) (w r : List UInt8), w.length ≤ n → Vd w → runes (w ++ r) = runes w ++ runes r := by
  intro n
  induction n with
  | zero => intro w r h _; rw [List.eq_nil_of_length_eq_zero (by omega : w.length = 0)]; rfl
  | succ n ih =>
    intro w r h hv
    by_cases hw : w = []
    · subst hw; rfl
    · have h0 : 0 < w.length := List.length_pos_iff.2 hw
      have hc := runes_cons w hw
      have hd : decodeL w ≠ (65533, 1) := hv _ (by rw [hc]; simp)
      have hwid := decodeL_width w
      have hle := decodeL_le w hw
      rw [runes_cons (w ++ r) (by simp [hw]), decodeL_app hw hd, List.drop_append_of_le_length hle, hc, List.cons_append]
      rw [ih (w.drop (decodeL w).2) r (by rw [List.length_drop]; omega) (fun x hx => hv x (by rw [hc]; simp [hx]))]
theorem vd_app {w r : List UInt8} (hw : Vd w) (hr : Vd r) : Vd (w ++ r) := fun x hx => by
  rw [runes_app _ w r (Nat.le_refl _) hw, List.mem_append] at hx
  exact hx.elim (hw x) (hr x)
theorem runes_ascii : ∀ (w : List UInt8), (∀ b, b ∈ w → b.toNat < 128) → runes w = w.map fun b => (b.toNat, 1)
  | [], _ => rfl
  | b :: t, h => by
    have hb := decodeL_ascii b t (h b (by simp))
    rw [runes_cons _ (by simp), hb, List.map_cons]
    simp only [List.drop_succ_cons, List.drop_zero]
    rw [runes_ascii t (fun x hx => h x (by simp [hx]))]
theorem vd_ascii {w : List UInt8} (h : ∀ b, b ∈ w → b.toNat < 128) : Vd w := fun x hx => by
  rw [runes_ascii w h, List.mem_map] at hx
  obtain ⟨b, hb, rfl⟩ := hx
  intro e
  have := h b hb
  simp only [Prod.mk.injEq] at e
  omega
theorem badF_ok : ∀ (rs : List (Nat × Nat)) (k : Int), (∀ x, x ∈ rs → x ≠ (65533, 1)) → badF k rs = -1
  | [], _, _ => rfl
  | r :: rs, k, h => by
    rw [badF, if_neg (h r (by simp))]
    exact badF_ok rs (k + 1) (fun x hx => h x (by simp [hx]))
theorem wordN_app : ∀ (n : Nat) (w : List UInt8) (rs : List (Nat × Nat)), w.length ≤ n → (∀ x, x ∈ runes w → isW x.1 = true) → wordN (runes w ++ rs) = w.length + wordN rs := by
  intro n
  induction n with
  | zero => intro w rs h _; rw [List.eq_nil_of_length_eq_zero (by omega : w.length = 0)]; simp [runes_nil]
  | succ n ih =>
    intro w rs h hv
    by_cases hw : w = []
    · subst hw; simp [runes_nil]
    · have h0 : 0 < w.length := List.length_pos_iff.2 hw
      have hc := runes_cons w hw
      have hwid := decodeL_width w
      have hle := decodeL_le w hw
      rw [hc, List.cons_append, wordN, if_pos (hv _ (by rw [hc]; simp)), ih (w.drop (decodeL w).2) rs (by rw [List.length_drop]; omega) (fun x hx => hv x (by rw [hc]; simp [hx])), List.length_drop]
      omega
theorem wordN_delim {r : List UInt8} (h : Delim r) : wordN (runes r) = 0 := by
  rcases h with rfl | ⟨c, t, rfl, h⟩
  · rfl
  · rw [runes_cons _ (by simp), decodeL_ascii c t (by rcases h with rfl | rfl | rfl <;> decide), wordN]
    rcases h with rfl | rfl | rfl <;> rfl
/-- A word ahead of what ends it. -/
theorem word_ahead {w r : List UInt8} (hv : Vd w) (hw : ∀ x, x ∈ runes w → isW x.1 = true) (hr : Delim r) : wordN (runes (w ++ r)) = w.length := by
  rw [runes_app _ w r (Nat.le_refl _) hv, wordN_app _ w _ (Nat.le_refl _) hw, wordN_delim hr]
  omega
theorem cls_three {r : Int} (h : cls r = 3) : 48 ≤ r ∧ r ≤ 57 := by
  unfold cls at h
  by_cases h1 : r = 32 ∨ r = 9 ∨ r = 13 ∨ r = 10
  · rw [if_pos h1] at h; omega
  · rw [if_neg h1] at h
    by_cases h2 : (97 ≤ r ∧ r ≤ 122) ∨ (65 ≤ r ∧ r ≤ 90) ∨ r = 95
    · rw [if_pos h2] at h; omega
    · rw [if_neg h2] at h
      by_cases h3 : 192 ≤ r ∧ r ≤ 591 ∧ r ≠ 215 ∧ r ≠ 247
      · rw [if_pos h3] at h; omega
      · rw [if_neg h3] at h
        by_cases h4 : 48 ≤ r ∧ r ≤ 57
        · exact h4
        · rw [if_neg h4] at h
          repeat' split at h
          all_goals omega
theorem decodeL_digit {l : List UInt8} (h : (decodeL l).1 < 128) : (decodeL l).1 = (l.getD 0 0).toNat := by
  rw [decodeL_N] at h ⊢
  rcases decodeN_shape l.length (l.getD 0 0).toNat (l.getD 1 0).toNat (l.getD 2 0).toNat (l.getD 3 0).toNat with ⟨c, e⟩ | ⟨c1, c2, c3, cv, e⟩ | ⟨c1, c2, c3, c4, cv, cs, e⟩ | ⟨c1, c2, c3, c4, c5, cv, cw, e⟩ | e
  · rw [e]
  all_goals
    rw [e] at h
    simp only at h
    omega
theorem nameB_is {s : ByteArray} (h : nameB s = true) : Vd s.data.toList ∧ (∀ x, x ∈ runes s.data.toList → isW x.1 = true) ∧ s.data.toList ≠ [] ∧ ((s.data.toList.getD 0 0).toNat < 48 ∨ 57 < (s.data.toList.getD 0 0).toNat) ∧ (runes s.data.toList).length ≤ 12 := by
  unfold nameB wordyB wordyL at h
  simp only [Bool.and_eq_true, Bool.or_eq_true, decide_eq_true_eq] at h
  obtain ⟨⟨⟨h1, h2, h3⟩, h4⟩, h5⟩ := h
  rw [validD_runes, List.all_eq_true] at h1
  refine ⟨fun x hx e => ?_, List.all_eq_true.1 h2, fun e => h3 ?_, h4, h5⟩
  · have := h1 x hx
    rw [e] at this
    simp at this
  · rw [← sz_data, e]; rfl
theorem list_eta (s : ByteArray) : (⟨s.data.toList.toArray⟩ : ByteArray) = s := by
  apply ByteArray.ext
  simp
theorem take_app (w r : List UInt8) : (w ++ r).take w.length = w := by simp
theorem tokF_name {s : ByteArray} {r : List UInt8} (h : nameB s = true) (hr : Delim r) : tokF (s.data.toList ++ r) = (⟨1, s, 0, 0⟩, (s.data.toList.length : Int), 0) := by
  obtain ⟨hv, hw, hne, h4, h5⟩ := nameB_is h
  have hmem : decodeL s.data.toList ∈ runes s.data.toList := by rw [runes_cons _ hne]; simp
  have hd := decodeL_app (r := r) hne (hv _ hmem)
  have hk : cls (decodeL s.data.toList).1 = 2 := by
    have := hw _ hmem
    unfold isW at this
    rw [Bool.or_eq_true, beq_iff_eq, beq_iff_eq] at this
    rcases this with h | h
    · exact h
    · have h6 := cls_three h
      have h7 := decodeL_digit (l := s.data.toList) (by omega)
      omega
  have hn := word_ahead hv hw hr
  unfold tokF
  simp only
  rw [hd, hn, take_app, hk, if_pos rfl, if_neg (by omega), list_eta]
theorem dig_val {d : Nat} (h : d < 10) : (UInt8.ofNat (48 + d)).toNat = 48 + d := by
  rw [UInt8.toNat_ofNat']
  omega
theorem dec_digits (u : Nat) : ∀ b, b ∈ decDigits u → 48 ≤ b.toNat ∧ b.toNat ≤ 57 := by
  induction u using Nat.strongRecOn with
  | _ u ih =>
    intro b hb
    rw [decDigits] at hb
    by_cases h : u < 10
    · rw [dif_pos h, List.mem_singleton] at hb
      subst hb
      rw [dig_val h]
      omega
    · rw [dif_neg h, List.mem_append, List.mem_singleton] at hb
      rcases hb with hb | hb
      · exact ih (u / 10) (by omega) b hb
      · subst hb
        rw [dig_val (Nat.mod_lt _ (by decide))]
        have := Nat.mod_lt u (show 0 < 10 by decide)
        omega
theorem numF_app : ∀ (rs ss : List (Nat × Nat)) (a b : Nat), numF a rs = some b → numF a (rs ++ ss) = numF b ss
  | [], _, a, b, h => by rw [numF] at h; rw [Option.some.inj h]; rfl
  | r :: rs, ss, a, b, h => by
    rw [numF] at h
    rw [List.cons_append, numF]
    split at h
    · rename_i hc
      rw [if_pos hc]
      exact numF_app rs ss _ b h
    · cases h
theorem cls_digit {b : Nat} (h1 : 48 ≤ b) (h2 : b ≤ 57) : cls (b : Int) = 3 := by
  unfold cls
  rw [if_neg (by omega), if_neg (by omega), if_neg (by omega), if_pos (by omega)]
theorem dec_num (u : Nat) : numF 0 ((decDigits u).map fun b => (b.toNat, 1)) = some u := by
  induction u using Nat.strongRecOn with
  | _ u ih =>
    rw [decDigits]
    by_cases h : u < 10
    · rw [dif_pos h]
      simp only [List.map_cons, List.map_nil, numF, dig_val h]
      rw [if_pos (cls_digit (by omega) (by omega))]
      congr 1
      omega
    · rw [dif_neg h, List.map_append, numF_app _ _ _ _ (ih (u / 10) (by omega))]
      have hm := Nat.mod_lt u (show 0 < 10 by decide)
      simp only [List.map_cons, List.map_nil, numF, dig_val hm]
      rw [if_pos (cls_digit (by omega) (by omega))]
      congr 1
      omega
theorem dec_ne (u : Nat) : decDigits u ≠ [] := fun e => by
  have := decDigits_length u
  have h2 := nDigits_pos u
  rw [e] at this
  simp at this
  omega
theorem dec_first (u : Nat) (h : 1 < (decDigits u).length) : (decDigits u).getD 0 0 ≠ 48 := by
  induction u using Nat.strongRecOn with
  | _ u ih =>
    by_cases h1 : u < 10
    · rw [decDigits, dif_pos h1] at h
      simp at h
    · rw [decDigits, dif_neg h1, getD_app (List.length_pos_iff.2 (dec_ne _))]
      by_cases h2 : u / 10 < 10
      · rw [decDigits, dif_pos h2]
        intro e
        have h3 := congrArg UInt8.toNat e
        simp only [List.getD_cons_zero] at h3
        rw [dig_val h2] at h3
        have : (48 : UInt8).toNat = 48 := rfl
        omega
      · refine ih (u / 10) (by omega) ?_
        rw [decDigits_length, nDigits_big h2]
        have := nDigits_pos (u / 10 / 10)
        omega
theorem dec_len (u : Nat) (h : u ≤ 9223372036854775807) : (decDigits u).length ≤ 19 := by
  rw [decDigits_length]
  apply Nat.le_of_not_lt
  intro hlt
  have key : ∀ k v, k < nDigits v → 10 ^ k ≤ v ∨ k = 0 := by
    intro k
    induction k with
    | zero => intro v _; exact .inr rfl
    | succ k ih =>
      intro v hv
      by_cases h1 : v < 10
      · rw [nDigits_small h1] at hv; omega
      · rw [nDigits_big h1] at hv
        left
        rcases ih (v / 10) (by omega) with h2 | h2
        · rw [Nat.pow_succ]; omega
        · subst h2; simp; omega
  rcases key 19 u hlt with h2 | h2
  · have : (10 : Nat) ^ 19 = 10000000000000000000 := by decide
    omega
  · omega
theorem tokF_num {n : Int} {r : List UInt8} (h0 : 0 ≤ n) (h1 : n ≤ 9223372036854775807) (hr : Delim r) : tokF (itoa n ++ r) = (⟨2, ⟨(itoa n).toArray⟩, n, 0⟩, ((itoa n).length : Int), 0) := by
  have hi : itoa n = decDigits n.toNat := by unfold itoa; rw [if_neg (by omega)]
  rw [hi]
  obtain ⟨w, hwd⟩ : ∃ w, decDigits n.toNat = w := ⟨_, rfl⟩
  have hdig := dec_digits n.toNat
  have hnum := dec_num n.toNat
  have hne := dec_ne n.toNat
  have hfst := dec_first n.toNat
  have hlen := dec_len n.toNat (by omega)
  rw [hwd] at hdig hnum hne hfst hlen ⊢
  have hasc : ∀ b, b ∈ w → b.toNat < 128 := fun b hb => by have := hdig b hb; omega
  have hru := runes_ascii w hasc
  have hisw : ∀ x, x ∈ runes w → isW x.1 = true := fun x hx => by
    rw [hru, List.mem_map] at hx
    obtain ⟨b, hb, rfl⟩ := hx
    have := hdig b hb
    unfold isW
    rw [cls_digit this.1 this.2]
    rfl
  have hv := vd_ascii hasc
  have hn := word_ahead hv hisw hr
  obtain ⟨c, t, rfl⟩ : ∃ c t, w = c :: t := List.exists_cons_of_ne_nil hne
  have hc := hdig c (by simp)
  have hdec : decodeL (c :: t ++ r) = (c.toNat, 1) := decodeL_ascii c (t ++ r) (by omega)
  have hsz : (⟨(c :: t).toArray⟩ : ByteArray).size = (c :: t).length := by rw [← sz_data]
  have hB : numB ⟨(c :: t).toArray⟩ = (n, true) := by
    unfold numB
    rw [hsz, if_neg (by
      rintro (h | h | ⟨h, h'⟩)
      · simp at h
      · omega
      · exact hfst h h')]
    show numT (numF 0 (runes (c :: t))) = _
    rw [hru, hnum]
    unfold numT
    simp only
    rw [if_neg (by omega)]
    simp only [Prod.mk.injEq, and_true]
    omega
  unfold tokF
  simp only
  rw [hdec]
  simp only
  rw [hn, take_app, cls_digit hc.1 hc.2, if_neg (by decide), if_pos rfl, hB, if_pos rfl]
theorem tokF_sign {c : UInt8} {r : List UInt8} (hc : cls c.toNat = 4) (ha : c.toNat < 128) (hr : r.getD 0 0 ≠ 61) : tokF (c :: r) = (⟨4, ⟨#[c]⟩, 0, 0⟩, 1, 0) := by
  unfold tokF
  simp only
  rw [decodeL_ascii c r ha]
  simp only
  rw [hc, if_neg (by decide), if_neg (by decide), if_neg (by decide), if_pos rfl, if_neg (by
    rintro ⟨_, h, _⟩
    exact hr h)]
  rfl
theorem tokF_sign2 {c : UInt8} {r : List UInt8} (hc : c = 60 ∨ c = 62 ∨ c = 61 ∨ c = 33) : tokF (c :: 61 :: r) = (⟨4, ⟨#[c, 61]⟩, 0, 0⟩, 2, 0) := by
  have h4 : cls c.toNat = 4 := by rcases hc with rfl | rfl | rfl | rfl <;> rfl
  have ha : c.toNat < 128 := by rcases hc with rfl | rfl | rfl | rfl <;> decide
  have hi : 0 ≤ indexByte [60, 62, 61, 33, 58] c := by rcases hc with rfl | rfl | rfl | rfl <;> decide
  unfold tokF
  simp only
  rw [decodeL_ascii c (61 :: r) ha]
  simp only
  rw [h4, if_neg (by decide), if_neg (by decide), if_neg (by decide), if_pos rfl, if_pos ⟨by simp, rfl, hi⟩]
  rfl
end Go.Proofs.YtgcfjkfipkfijaaGreatDoor
/-! A tree's text is lexed and parsed as that tree. No program in sight. -/
namespace Go.Proofs.YtgcfjkfipkfijaaGreatDoor
open Go Go.RowKit Go.Lib

/-- A text is lexed as n tokens of a sort, whatever stands behind it. -/
structure LexT (s : List UInt8) (n : Nat) (D : List Tok → Prop) : Prop where
  len : n ≤ s.length
  ne : s.getD 0 0 ≠ 61
  vd : Vd s
  lex : ∀ (r : List UInt8), Delim r → ∀ (f : Nat) (a : Int) (out : List Tok), out.length + n ≤ 2000 → ∃ ts a', ts.length = n ∧ D ts ∧ cutS (f + n) (s ++ r) a out = cutS f r a' (out ++ ts)
theorem LexT.imp {s : List UInt8} {n : Nat} {D D' : List Tok → Prop} (h : LexT s n D) (hd : ∀ ts, D ts → D' ts) : LexT s n D' :=
  ⟨h.len, h.ne, h.vd, fun r hr f a out ho => by
    obtain ⟨ts, a', h1, h2, h3⟩ := h.lex r hr f a out ho
    exact ⟨ts, a', h1, hd ts h2, h3⟩⟩
/-- One token of text s. -/
theorem lex_one {s : List UInt8} {t : Tok} {D : List Tok → Prop} (hs : s ≠ []) (hn : s.getD 0 0 ≠ 61) (hv : Vd s) (hk : ∀ r, skipN (s ++ r) = 0) (ht : ∀ r, Delim r → tokF (s ++ r) = (t, (s.length : Int), 0)) (hd : ∀ a, D [{ t with at_ := a }]) : LexT s 1 D := by
  refine ⟨List.length_pos_iff.2 hs, hn, hv, fun r hr f a out ho => ⟨[{ t with at_ := a }], a + (runes s).length, rfl, hd a, ?_⟩⟩
  have h := ht r hr
  rw [cutS_tok (by simp [hs]) (hk r) (by omega) (by rw [h]), h]
  simp only [Int.toNat_natCast]
  rw [take_app, List.drop_left]
theorem skipN_zero {c : UInt8} {t : List UInt8} (h1 : cls c.toNat ≠ 1) (h6 : cls c.toNat ≠ 6) : skipN (c :: t) = 0 := by
  simp only [skipN]
  rw [if_neg h1, if_neg h6]
theorem der_lift {m n : Nat} {e : Ex} {ts : List Tok} (h1 : 1 ≤ m) (h : Der n e ts) (hm : m ≤ n) (h6 : n ≤ 6) : Der m e ts := by
  obtain ⟨k, hk⟩ : ∃ k, n = m + k := ⟨n - m, by omega⟩
  subst hk
  induction k with
  | zero => exact h
  | succ k ih => exact ih (.up (by omega) (by omega) h) (by omega) (by omega)
theorem isW_skip {x : Nat} (h : isW x = true) : cls (x : Int) ≠ 1 ∧ cls (x : Int) ≠ 6 := by
  unfold isW at h
  rw [Bool.or_eq_true, beq_iff_eq, beq_iff_eq] at h
  rcases h with h | h <;> rw [h] <;> decide
theorem first_cls {s : List UInt8} {c : UInt8} {t : List UInt8} (he : s = c :: t) (hw : isW (decodeL s).1 = true) : cls c.toNat ≠ 1 ∧ cls c.toNat ≠ 6 ∧ c ≠ 61 := by
  by_cases hc : c.toNat < 128
  · rw [he, decodeL_ascii c t hc] at hw
    have h := isW_skip hw
    refine ⟨h.1, h.2, fun e => ?_⟩
    subst e
    exact absurd hw (by decide)
  · have h0 : ∀ x : Int, 128 ≤ x → x ≤ 255 → cls x ≠ 1 ∧ cls x ≠ 6 := by
      intro x h1 h2
      unfold cls
      rw [if_neg (by omega), if_neg (by omega)]
      by_cases h3 : 192 ≤ x ∧ x ≤ 591 ∧ x ≠ 215 ∧ x ≠ 247
      · rw [if_pos h3]; decide
      · rw [if_neg h3, if_neg (by omega), if_neg (by omega), if_neg (by omega), if_neg (by omega)]; decide
    have h255 : c.toNat ≤ 255 := by have := c.toNat_lt; omega
    have h := h0 c.toNat (by omega) (by omega)
    refine ⟨h.1, h.2, fun e => ?_⟩
    subst e
    exact hc (by decide)
theorem lex_name {s : ByteArray} (h : nameB s = true) : LexT s.data.toList 1 (Der 6 (.mk 1 0 s [])) := by
  obtain ⟨hv, hw, hne, _, _⟩ := nameB_is h
  have hmem : decodeL s.data.toList ∈ runes s.data.toList := by rw [runes_cons _ hne]; simp
  obtain ⟨c, t, hct⟩ := List.exists_cons_of_ne_nil hne
  have hf := first_cls hct (hw _ hmem)
  refine lex_one hne (by rw [hct]; exact hf.2.2) hv (fun r => by rw [hct]; exact skipN_zero hf.1 hf.2.1) (fun r hr => tokF_name h hr) (fun a => Der.name (t := ⟨1, s, 0, a⟩) rfl)
theorem lex_num {n : Int} (h0 : 0 ≤ n) (h1 : n ≤ 9223372036854775807) : LexT (itoa n) 1 (Der 6 (.mk 0 n ⟨#[]⟩ [])) := by
  have hi : itoa n = decDigits n.toNat := by unfold itoa; rw [if_neg (by omega)]
  have hdig : ∀ b, b ∈ itoa n → 48 ≤ b.toNat ∧ b.toNat ≤ 57 := by rw [hi]; exact dec_digits _
  have hne : itoa n ≠ [] := by rw [hi]; exact dec_ne _
  obtain ⟨c, t, hct⟩ := List.exists_cons_of_ne_nil hne
  have hc := hdig c (by rw [hct]; simp)
  have h3 := cls_digit hc.1 hc.2
  refine lex_one hne (by rw [hct]; rintro rfl; exact absurd hc (by decide)) (vd_ascii (fun b hb => by have := hdig b hb; omega)) (fun r => by rw [hct]; exact skipN_zero (by rw [h3]; decide) (by rw [h3]; decide)) (fun r hr => tokF_num h0 h1 hr) (fun a => Der.num (t := ⟨2, ⟨(itoa n).toArray⟩, n, a⟩) rfl)
theorem cutS_step {f : Nat} {s r : List UInt8} {t : Tok} {a : Int} {out : List Tok} (hs : s ≠ []) (hk : skipN (s ++ r) = 0) (ho : out.length ≠ 2000) (ht : tokF (s ++ r) = (t, (s.length : Int), 0)) :
    cutS (f + 1) (s ++ r) a out = cutS f r (a + (runes s).length) (out ++ [{ t with at_ := a }]) := by
  rw [cutS_tok (by simp [hs]) hk ho (by rw [ht]), ht]
  simp only [Int.toNat_natCast]
  rw [take_app, List.drop_left]
theorem delim_shut (r : List UInt8) : Delim ([41] ++ r) := .inr ⟨41, r, rfl, .inr (.inl rfl)⟩
theorem delim_head {r : List UInt8} (h : Delim r) : r.getD 0 0 ≠ 61 := by
  rcases h with rfl | ⟨c, t, rfl, h⟩
  · decide
  · rcases h with rfl | rfl | rfl <;> (simp)
theorem lex_par {s : List UInt8} {n : Nat} {e : Ex} (h1 : LexT s n (Der 1 e)) : LexT ([40] ++ s ++ [41]) (n + 2) (Der 6 e) := by
  refine ⟨by have := h1.len; simp; omega, by simp, vd_app (vd_app (vd_ascii (by simp)) h1.vd) (vd_ascii (by simp)), fun r hr f a out ho => ?_⟩
  have e1 : [40] ++ s ++ [41] ++ r = [40] ++ (s ++ ([41] ++ r)) := by simp
  have hs0 : (s ++ ([41] ++ r)).getD 0 0 ≠ 61 := by
    by_cases hs : s = []
    · subst hs; simp
    · rw [getD_app (List.length_pos_iff.2 hs)]; exact h1.ne
  have h2 : cutS (f + 1 + n + 1) ([40] ++ (s ++ ([41] ++ r))) a out = _ := cutS_step (f := f + 1 + n) (t := ⟨4, ⟨#[40]⟩, 0, 0⟩) (by simp) (skipN_zero (by decide) (by decide)) (by omega) (tokF_sign rfl (by decide) hs0)
  obtain ⟨ts, a', h3, h4, h5⟩ := h1.lex ([41] ++ r) (delim_shut r) (f + 1) (a + (runes [40]).length) (out ++ [⟨4, ⟨#[40]⟩, 0, a⟩]) (by simp; omega)
  have h6 : cutS (f + 1) ([41] ++ r) a' (out ++ [⟨4, ⟨#[40]⟩, 0, a⟩] ++ ts) = _ := cutS_step (t := ⟨4, ⟨#[41]⟩, 0, 0⟩) (by simp) (skipN_zero (by decide) (by decide)) (by simp [h3]; omega) (tokF_sign rfl (by decide) (delim_head hr))
  refine ⟨⟨4, ⟨#[40]⟩, 0, a⟩ :: (ts ++ [⟨4, ⟨#[41]⟩, 0, a'⟩]), a' + (runes [41]).length, by simp [h3], Der.par rfl rfl h4, ?_⟩
  rw [e1, show f + (n + 2) = f + 1 + n + 1 by omega, h2, h5, h6]
  simp
theorem lex_un {s : List UInt8} {n : Nat} {e : Ex} {op : Int} (ho : op = 2 ∨ op = 3) (h : LexT s n (Der 6 e)) : LexT ((eSign op).data.toList ++ s) (n + 1) (Der 6 (node1 op e)) := by
  obtain ⟨c, hc, hcl, hca, hcs⟩ : ∃ c, (eSign op).data.toList = [c] ∧ cls (c : UInt8).toNat = 4 ∧ c.toNat < 128 ∧ eSign op = ⟨#[c]⟩ ∧ c ≠ 61 := by
    rcases ho with rfl | rfl
    · exact ⟨45, rfl, rfl, by decide, rfl, by decide⟩
    · exact ⟨33, rfl, rfl, by decide, rfl, by decide⟩
  rw [hc]
  refine ⟨by have := h.len; simp; omega, by simpa using hcs.2, vd_app (vd_ascii (by simpa using hca)) h.vd, fun r hr f a out hout => ?_⟩
  have hs0 : (s ++ r).getD 0 0 ≠ 61 := by
    by_cases hs : s = []
    · subst hs; exact delim_head hr
    · rw [getD_app (List.length_pos_iff.2 hs)]; exact h.ne
  have e1 : [c] ++ s ++ r = [c] ++ (s ++ r) := by simp
  have h2 : cutS (f + (n + 1)) ([c] ++ (s ++ r)) a out = _ := cutS_step (f := f + n) (t := ⟨4, ⟨#[c]⟩, 0, 0⟩) (by simp) (skipN_zero (by rw [hcl]; decide) (by rw [hcl]; decide)) (by omega) (tokF_sign hcl hca hs0)
  obtain ⟨ts, a', h3, h4, h5⟩ := h.lex r hr f (a + (runes [c]).length) (out ++ [⟨4, ⟨#[c]⟩, 0, a⟩]) (by simp; omega)
  refine ⟨⟨4, ⟨#[c]⟩, 0, a⟩ :: ts, a', by simp [h3], Der.un ho ⟨rfl, by rw [hcs.1]; exact seq_iff.2 rfl⟩ h4, ?_⟩
  rw [e1, h2, h5]
  simp
/-- A sign of two parts, with blanks about it. -/
theorem lex_sign {op : Int} (h4 : 4 ≤ op) (h16 : op ≤ 16) (f : Nat) (r : List UInt8) (a : Int) (out : List Tok) (ho : out.length ≠ 2000) :
    ∃ t a', Sgn op t ∧ cutS (f + 1) ([32] ++ (eSign op).data.toList ++ [32] ++ r) a out = cutS f r a' (out ++ [t]) := by
  have e1 : [32] ++ (eSign op).data.toList ++ [32] ++ r = 32 :: ((eSign op).data.toList ++ (32 :: r)) := by simp
  have key : ∀ (s : List UInt8) (x : ByteArray), s ≠ [] → skipN (s ++ (32 :: r)) = 0 → tokF (s ++ (32 :: r)) = (⟨4, x, 0, 0⟩, (s.length : Int), 0) → (eSign op).data.toList = s → eSign op = x →
      ∃ t a', Sgn op t ∧ cutS (f + 1) (32 :: ((eSign op).data.toList ++ (32 :: r))) a out = cutS f r a' (out ++ [t]) := by
    intro s x hs hk ht he hx
    refine ⟨⟨4, x, 0, a + 1⟩, a + 1 + (runes s).length + 1, ⟨rfl, by rw [hx]; exact seq_iff.2 rfl⟩, ?_⟩
    rw [cutS_blank (.inl rfl), he, cutS_step hs hk ho ht, cutS_blank (.inl rfl)]
  rw [e1]
  have hop : op = 4 ∨ op = 5 ∨ op = 6 ∨ op = 7 ∨ op = 8 ∨ op = 9 ∨ op = 10 ∨ op = 11 ∨ op = 12 ∨ op = 13 ∨ op = 14 ∨ op = 15 ∨ op = 16 := by omega
  have k1 : ∀ c : UInt8, cls c.toNat = 4 → c.toNat < 128 → (eSign op).data.toList = [c] → eSign op = ⟨#[c]⟩ → ∃ t a', Sgn op t ∧ cutS (f + 1) (32 :: ((eSign op).data.toList ++ (32 :: r))) a out = cutS f r a' (out ++ [t]) := fun c hc ha he hx =>
    key [c] ⟨#[c]⟩ (by simp) (skipN_zero (by rw [hc]; decide) (by rw [hc]; decide)) (tokF_sign hc ha (by simp)) he hx
  have k2 : ∀ c : UInt8, (c = 60 ∨ c = 62 ∨ c = 61 ∨ c = 33) → (eSign op).data.toList = [c, 61] → eSign op = ⟨#[c, 61]⟩ → ∃ t a', Sgn op t ∧ cutS (f + 1) (32 :: ((eSign op).data.toList ++ (32 :: r))) a out = cutS f r a' (out ++ [t]) := fun c hc he hx =>
    key [c, 61] ⟨#[c, 61]⟩ (by simp) (skipN_zero (by rcases hc with rfl | rfl | rfl | rfl <;> decide) (by rcases hc with rfl | rfl | rfl | rfl <;> decide)) (tokF_sign2 hc) he hx
  rcases hop with rfl | rfl | rfl | rfl | rfl | rfl | rfl | rfl | rfl | rfl | rfl | rfl | rfl
  · exact k1 43 rfl (by decide) rfl rfl
  · exact k1 45 rfl (by decide) rfl rfl
  · exact k1 42 rfl (by decide) rfl rfl
  · exact k1 47 rfl (by decide) rfl rfl
  · exact k1 37 rfl (by decide) rfl rfl
  · exact k1 60 rfl (by decide) rfl rfl
  · exact k2 60 (by decide) rfl rfl
  · exact k1 62 rfl (by decide) rfl rfl
  · exact k2 62 (by decide) rfl rfl
  · exact k2 61 (by decide) rfl rfl
  · exact k2 33 (by decide) rfl rfl
  · exact k1 38 rfl (by decide) rfl rfl
  · exact k1 124 rfl (by decide) rfl rfl
theorem sign_ascii (op : Int) : ∀ b, b ∈ (eSign op).data.toList → b.toNat < 128 := by
  have h : ∀ l : List UInt8, (bytes l).data.toList = l := fun l => by simp [bytes]
  have hi : ∀ (p : Prop) [Decidable p] (x y : List UInt8), (∀ b, b ∈ x → b.toNat < 128) → (∀ b, b ∈ y → b.toNat < 128) → ∀ b, b ∈ (if p then x else y) → b.toNat < 128 := fun p _ x y hx hy => by split <;> assumption
  unfold eSign
  rw [h]
  repeat' (apply hi)
  all_goals decide
theorem lex_bin {s s2 : List UInt8} {n n2 : Nat} {op : Int} {D D2 D3 : List Tok → Prop} (h4 : 4 ≤ op) (h16 : op ≤ 16) (h : LexT s n D) (h2 : LexT s2 n2 D2)
    (hd : ∀ ts t us, D ts → Sgn op t → D2 us → D3 (ts ++ t :: us)) (hne : s ≠ []) : LexT (s ++ [32] ++ (eSign op).data.toList ++ [32] ++ s2) (n + 1 + n2) D3 := by
  refine ⟨?_, ?_, ?_, fun r hr f a out ho => ?_⟩
  · have a1 := h.len
    have a2 := h2.len
    simp only [List.length_append, List.length_cons, List.length_nil]
    omega
  · rw [List.append_assoc, List.append_assoc, List.append_assoc, getD_app (List.length_pos_iff.2 hne)]
    exact h.ne
  · exact vd_app (vd_app (vd_app (vd_app h.vd (vd_ascii (by simp))) (vd_ascii (sign_ascii op))) (vd_ascii (by simp))) h2.vd
  · have e1 : s ++ [32] ++ (eSign op).data.toList ++ [32] ++ s2 ++ r = s ++ ([32] ++ (eSign op).data.toList ++ [32] ++ (s2 ++ r)) := by simp
    obtain ⟨ts, a1, g1, g2, g3⟩ := h.lex ([32] ++ (eSign op).data.toList ++ [32] ++ (s2 ++ r)) (.inr ⟨32, _, rfl, .inl rfl⟩) (f + n2 + 1) a out (by omega)
    obtain ⟨t, a2, g4, g5⟩ := lex_sign h4 h16 (f + n2) (s2 ++ r) a1 (out ++ ts) (by rw [List.length_append]; omega)
    obtain ⟨us, a3, g6, g7, g8⟩ := h2.lex r hr f a2 (out ++ ts ++ [t]) (by simp only [List.length_append, List.length_cons, List.length_nil]; omega)
    refine ⟨ts ++ t :: us, a3, by simp only [List.length_append, List.length_cons]; omega, hd _ _ _ g2 g4 g7, ?_⟩
    rw [e1, show f + (n + 1 + n2) = f + n2 + 1 + n by omega, g3, g5, g8]
    simp
theorem gtext_one (op : Int) (a : Ex) (ho : op = 2 ∨ op = 3) : eText (node1 op a) = (eSign op).data.toList ++ brk (eWrapped op a.op 0) (eText a) := by
  unfold node1
  rw [eText.eq_def]
  simp only
  rw [if_neg (by omega), if_neg (by omega)]
theorem text_two' (op : Int) (a b : Ex) (h4 : 4 ≤ op) : eText (node2 op a b) = brk (eWrapped op a.op 0) (eText a) ++ [32] ++ (eSign op).data.toList ++ [32] ++ brk (eWrapped op b.op 1) (eText b) := by
  unfold node2
  rw [eText.eq_def]
  simp only
  rw [if_neg (by omega), if_neg (by omega)]
/-- A part's text, in brackets or without. -/
theorem lex_brk {e : Ex} {m : Nat} {b : Bool} (h : LexT (eText e) (cst e) (Der (eLine e.op).toNat e)) (h1 : 1 ≤ m) (h6 : m ≤ 6) (hb : b = false → (m : Int) ≤ eLine e.op) : LexT (brk b (eText e)) (cst e + wr b) (Der m e) := by
  have g1 := line_ge e.op
  have g6 := line_le e.op
  cases b with
  | true => exact (lex_par (h.imp fun ts ht => der_lift (by decide) ht (by omega) (by omega))).imp fun ts ht => der_lift h1 ht h6 (by decide)
  | false => exact h.imp fun ts ht => der_lift h1 ht (by have := hb rfl; omega) (by omega)
theorem brk_ne {b : Bool} {l : List UInt8} (h : l ≠ []) : brk b l ≠ [] := by
  cases b
  · exact h
  · simp [brk]
theorem lex_text {e : Ex} (h : ExWf e) (hk : ExOk e) : LexT (eText e) (cst e) (Der (eLine e.op).toNat e) := by
  induction h with
  | @num n h0 =>
    rw [show eText (.mk 0 n ⟨#[]⟩ []) = itoa n by rw [eText.eq_def]; exact rfl]
    exact lex_num h0 hk.n.2
  | @name s h0 =>
    rw [show eText (.mk 1 0 s []) = s.data.toList by rw [eText.eq_def]; exact rfl]
    exact lex_name h0
  | @un op a ho _ ih =>
    have ha := ih (hk.kids a (by simp [node1, Ex.kids]))
    rw [gtext_one op a ho, cst_one, Nat.add_comm 1]
    have hl : eLine op = 6 := by rcases ho with rfl | rfl <;> rfl
    show LexT _ _ (Der (eLine op).toNat (node1 op a))
    rw [hl]
    refine lex_un ho (lex_brk ha (by decide) (by decide) (fun hb => ?_))
    unfold eWrapped at hb
    rw [hl] at hb
    have := line_le a.op
    simp at hb
    omega
  | @bin op a b h4 h16 _ _ iha ihb =>
    have ha := iha (hk.kids a (by simp [node2, Ex.kids]))
    have hb := ihb (hk.kids b (by simp [node2, Ex.kids]))
    rw [text_two' op a b h4, cst_two]
    show LexT _ _ (Der (eLine op).toNat (node2 op a b))
    obtain ⟨n, hn⟩ : ∃ n : Nat, eLine op = n := ⟨(eLine op).toNat, by have := line_ge op; omega⟩
    have hlo := line_lo op n h4 h16 hn
    have hle : (eText a) ≠ [] := by
      intro e
      have g1 := ha.len
      have g2 := cst_pos a
      rw [e] at g1
      simp at g1
      omega
    rw [hn, Int.toNat_natCast, show 1 + (cst a + wr (eWrapped op a.op 0)) + (cst b + wr (eWrapped op b.op 1)) = (cst a + wr (eWrapped op a.op 0)) + 1 + (cst b + wr (eWrapped op b.op 1)) by omega]
    by_cases h3 : n = 3
    · subst h3
      have h9 := hlo.1
      have h14 := hlo.2.1
      refine lex_bin h4 h16 (lex_brk (m := 4) ha (by decide) (by decide) (fun hw => ?_)) (lex_brk (m := 4) hb (by decide) (by decide) (fun hw => ?_)) (fun ts t us d1 d2 d3 => .cmp h9 h14 d2 d1 d3) (brk_ne hle)
      · unfold eWrapped at hw
        rw [hn] at hw
        simp at hw
        omega
      · unfold eWrapped at hw
        rw [hn] at hw
        simp at hw
        omega
    · refine lex_bin h4 h16 (lex_brk (m := n) ha (by omega) (by omega) (fun hw => ?_)) (lex_brk (m := n + 1) hb (by omega) (by omega) (fun hw => ?_)) (fun ts t us d1 d2 d3 => .bin h4 h16 hn h3 d2 d1 d3) (brk_ne hle)
      · unfold eWrapped at hw
        rw [hn] at hw
        simp at hw
        omega
      · unfold eWrapped at hw
        rw [hn] at hw
        simp at hw
        omega
end Go.Proofs.YtgcfjkfipkfijaaGreatDoor
/-! Printed and parsed again: the same tree. What is parsed may be, and has no more tokens when it is printed. No program in sight. -/
namespace Go.Proofs.YtgcfjkfipkfijaaGreatDoor
open Go Go.RowKit Go.Lib

theorem decodeL_four (l : List UInt8) : (decodeL l).2 ≤ 4 := by
  rw [decodeL_N]
  rcases decodeN_shape l.length (l.getD 0 0).toNat (l.getD 1 0).toNat (l.getD 2 0).toNat (l.getD 3 0).toNat with ⟨c, e⟩ | ⟨c1, c2, c3, cv, e⟩ | ⟨c1, c2, c3, c4, cv, cs, e⟩ | ⟨c1, c2, c3, c4, c5, cv, cw, e⟩ | e
  all_goals
    rw [e]
    simp only
    omega
theorem runes_four : ∀ (n : Nat) (w : List UInt8), w.length ≤ n → w.length ≤ 4 * (runes w).length := by
  intro n
  induction n with
  | zero => intro w h; omega
  | succ n ih =>
    intro w h
    by_cases hw : w = []
    · subst hw; exact Nat.le_refl _
    · have h0 : 0 < w.length := List.length_pos_iff.2 hw
      have h1 := decodeL_width w
      have h4 := decodeL_four w
      have := ih (w.drop (decodeL w).2) (by rw [List.length_drop]; omega)
      rw [runes_cons w hw, List.length_cons]
      rw [List.length_drop] at this
      omega
theorem name_len {s : ByteArray} (h : nameB s = true) : s.data.toList.length ≤ 48 := by
  have h1 := runes_four _ s.data.toList (Nat.le_refl _)
  have h2 := (nameB_is h).2.2.2.2
  omega
/-- A tree's text is no longer than 51 bytes a token. -/
theorem text_short {e : Ex} (h : ExWf e) (hk : ExOk e) : (eText e).length + 3 ≤ 51 * cst e := by
  induction h with
  | @num n h0 =>
    rw [show eText (.mk 0 n ⟨#[]⟩ []) = itoa n by rw [eText.eq_def]; exact rfl, show itoa n = decDigits n.toNat by unfold itoa; rw [if_neg (by omega)]]
    have h1 : n ≤ 9223372036854775807 := hk.n.2
    have := dec_len n.toNat (by omega)
    rw [cst]
    omega
  | @name s h0 =>
    rw [show eText (.mk 1 0 s []) = s.data.toList by rw [eText.eq_def]; exact rfl]
    have := name_len h0
    rw [cst]
    omega
  | @un op a ho _ ih =>
    have ha := ih (hk.kids a (by simp [node1, Ex.kids]))
    have hs := sign_len op
    rw [gtext_one op a ho, cst_one, List.length_append, brk_len]
    unfold wr
    omega
  | @bin op a b h4 h16 _ _ iha ihb =>
    have ha := iha (hk.kids a (by simp [node2, Ex.kids]))
    have hb := ihb (hk.kids b (by simp [node2, Ex.kids]))
    have hs := sign_len op
    rw [text_two' op a b h4, cst_two]
    simp only [List.length_append, brk_len, List.length_cons, List.length_nil]
    unfold wr
    omega
theorem str_sz (l : List UInt8) : (str l).size = l.length := by rw [← sz_data, data_str]
theorem cut_text {e : Ex} (h : ExWf e) (hk : ExOk e) (hc : cst e ≤ 64) : ∃ ts a, Der 1 e ts ∧ ts.length = cst e ∧ cutB (str (eText e)) = (ts ++ [⟨0, ⟨#[]⟩, 0, a⟩], 0, 0) := by
  have hl := lex_text h hk
  have h1 := text_short h hk
  obtain ⟨ts, a, g1, g2, g3⟩ := hl.lex [] (.inl rfl) ((eText e).length + 1 - cst e) 0 [] (by simp; omega)
  have g6 := line_ge e.op
  refine ⟨ts, a, der_lift (by decide) g2 (by omega) (by have := line_le e.op; omega), g1, ?_⟩
  have hlen := hl.len
  obtain ⟨f, hf⟩ : ∃ f, (eText e).length + 1 - cst e = f + 1 := ⟨(eText e).length - cst e, by omega⟩
  rw [show (eText e).length + 1 - cst e + cst e = (eText e).length + 1 by omega, hf, cutS_nil, List.append_nil] at g3
  unfold cutB
  rw [if_neg (by rw [str_sz]; omega), data_str, badF_ok _ 0 hl.vd, if_neg (by decide), str_sz]
  exact g3
theorem tokAt_app (ts us : List Tok) (j : Nat) (h : j < ts.length) : tokAt (ts ++ us) j = ts[j] := by
  unfold tokAt
  rw [if_neg (by simp; omega), Int.toNat_natCast]
  simp [List.getD, List.getElem?_append_left h, h]
theorem tokAt_end (ts : List Tok) (t : Tok) : tokAt (ts ++ [t]) (ts.length : Int) = t := by
  unfold tokAt
  rw [if_neg (by simp; omega), Int.toNat_natCast]
  simp
theorem parse_der {s : ByteArray} {ts : List Tok} {a : Int} {e : Ex} (hc : cutB s = (ts ++ [⟨0, ⟨#[]⟩, 0, a⟩], 0, 0)) (hd : Der 1 e ts) (hl : ts.length ≤ 64) : parseP s = (e, 0, 0) := by
  have h1 := takeP_der (a := 0) hd (fun j hj => by rw [Int.zero_add]; exact tokAt_app ts [⟨0, ⟨#[]⟩, 0, a⟩] j hj) (noCont_kind (by rw [Int.zero_add, tokAt_end]; exact (by decide : (0 : Int) ≠ 4))) hl
  unfold parseP
  simp only [hc, h1]
  rw [Int.zero_add, tokAt_end]
  rfl
/-- The text of a tree that may be is that tree. -/
theorem parse_back {e : Ex} (h : eMay e = true) (hk : ExOk e) : parseP (str (eText e)) = (e, 0, 0) := by
  obtain ⟨hw, hc⟩ := (may_iff e).1 h
  obtain ⟨ts, a, h1, h2, h3⟩ := cut_text hw hk hc
  exact parse_der h3 h1 (by omega)
/-- What the lexer tells of a token that is not the last. -/
def TokGood (t : Tok) : Prop := t.kind ≠ 0 ∧ TokOk t ∧ Fits t.n
theorem good_other {t : Tok} {k : Int} (hk : t.kind = k) (h0 : k ≠ 0) (h1 : k ≠ 1) (h2 : k ≠ 2) (hz : Fits t.n) : TokGood t := ⟨by omega, ⟨fun h => by omega, fun h => by omega⟩, hz⟩
theorem good_name {t : Tok} (hk : t.kind = 1) (h : nameB t.text = true) (hz : Fits t.n) : TokGood t := ⟨by omega, ⟨fun h => by omega, fun _ => h⟩, hz⟩
theorem good_num {t : Tok} (hk : t.kind = 2) (h : 0 ≤ t.n ∧ t.n ≤ 9223372036854775807) : TokGood t := ⟨by omega, ⟨fun _ => h.1, fun h => by omega⟩, by omega, h.2⟩
theorem isW_valid {x : Nat × Nat} (h : isW x.1 = true) : x ≠ (65533, 1) := fun e => by
  rw [e] at h
  exact absurd h (by decide)
theorem decodeN_take {n m b0 b1 b2 b3 c1 c2 c3 : Nat} (hw : (decodeN n b0 b1 b2 b3).2 ≤ m) (h1 : 1 < m → c1 = b1) (h2 : 2 < m → c2 = b2) (h3 : 3 < m → c3 = b3) (hv : decodeN n b0 b1 b2 b3 ≠ (65533, 1)) : decodeN m b0 c1 c2 c3 = decodeN n b0 b1 b2 b3 := by
  rcases decodeN_shape n b0 b1 b2 b3 with ⟨c, e⟩ | ⟨c1', c2', c3', cv, e⟩ | ⟨c1', c2', c3', c4', cv, cs, e⟩ | ⟨c1', c2', c3', c4', c5', cv, cw, e⟩ | e
  · rw [e]; unfold decodeN; rw [if_pos c]
  · rw [e] at hw
    simp only at hw
    obtain rfl := h1 (by omega)
    rw [e]; unfold decodeN; rw [if_neg (by omega), if_pos ⟨c1', by omega, c3'⟩, if_pos (by omega)]
  · rw [e] at hw
    simp only at hw
    obtain rfl := h1 (by omega)
    obtain rfl := h2 (by omega)
    rw [e]; unfold decodeN; rw [if_neg (by omega), if_neg (by omega), if_pos ⟨c1', ⟨by omega, c3'⟩, by omega, c4'⟩, if_pos (by omega)]
  · rw [e] at hw
    simp only at hw
    obtain rfl := h1 (by omega)
    obtain rfl := h2 (by omega)
    obtain rfl := h3 (by omega)
    rw [e]; unfold decodeN; rw [if_neg (by omega), if_neg (by omega), if_neg (by omega), if_pos ⟨c1', ⟨by omega, c3'⟩, ⟨by omega, c4'⟩, by omega, c5'⟩, if_pos (by omega)]
  · exact absurd e hv
theorem getD_take {l : List UInt8} {m i : Nat} (h : i < m) : (l.take m).getD i 0 = l.getD i 0 := by
  simp [List.getD, List.getElem?_take_of_lt h]
theorem decodeL_take {l : List UInt8} {m : Nat} (hm : m ≤ l.length) (hw : (decodeL l).2 ≤ m) (hv : decodeL l ≠ (65533, 1)) : decodeL (l.take m) = decodeL l := by
  have h1 := decodeL_width l
  rw [decodeL_N] at hv hw
  rw [decodeL_N, decodeL_N, getD_take (by have := decodeL_width l; rw [decodeL_N] at this; omega), List.length_take, Nat.min_eq_left hm]
  exact decodeN_take hw (fun h => by rw [getD_take h]) (fun h => by rw [getD_take h]) (fun h => by rw [getD_take h]) hv
theorem word_runes : ∀ (n : Nat) (l : List UInt8), l.length ≤ n → ∀ x, x ∈ runes (l.take (wordN (runes l))) → isW x.1 = true := by
  intro n
  induction n with
  | zero => intro l h x hx; rw [List.eq_nil_of_length_eq_zero (by omega : l.length = 0)] at hx; simp [runes_nil] at hx
  | succ n ih =>
    intro l h x hx
    by_cases hl : l = []
    · subst hl; simp [runes_nil] at hx
    · have h0 : 0 < l.length := List.length_pos_iff.2 hl
      have h1 := decodeL_width l
      have hle := decodeL_le l hl
      rw [runes_cons l hl, wordN] at hx
      by_cases hw : isW (decodeL l).1 = true
      · rw [if_pos hw] at hx
        have hv := isW_valid hw
        have hwl := wordN_le' _ (l.drop (decodeL l).2) (Nat.le_refl _)
        rw [List.length_drop] at hwl
        have hd := decodeL_take (l := l) (m := (decodeL l).2 + wordN (runes (l.drop (decodeL l).2))) (by omega) (by omega) hv
        rw [runes_cons _ (by intro e; have := congrArg List.length e; rw [List.length_take, List.length_nil] at this; omega), hd, List.mem_cons, List.drop_take, Nat.add_sub_cancel_left] at hx
        rcases hx with rfl | hx
        · exact hw
        · exact ih _ (by rw [List.length_drop]; omega) x hx
      · rw [if_neg hw] at hx
        simp [runes_nil] at hx
theorem tokF_good {l : List UInt8} (hl : l ≠ []) (h : (tokF l).2.2 = 0) : TokGood (tokF l).1 := by
  have h0 : 0 < l.length := List.length_pos_iff.2 hl
  have hz : Fits 0 := ⟨by decide, by decide⟩
  have hn0 : ∀ s : ByteArray, 0 ≤ (numB s).1 ∧ (numB s).1 ≤ 9223372036854775807 := by
    intro s
    unfold numB
    split
    · exact ⟨by decide, by decide⟩
    · unfold numT
      split
      · exact ⟨by decide, by decide⟩
      · split
        · exact ⟨by decide, by decide⟩
        · constructor <;> simp only <;> omega
  have hbytes : ∀ w : List UInt8, (⟨w.toArray⟩ : ByteArray).data.toList = w := fun w => by simp
  unfold tokF at h ⊢
  simp only at h ⊢
  by_cases h2 : cls (decodeL l).1 = 2
  · rw [if_pos h2] at h ⊢
    by_cases h12 : 12 < (runes (l.take (wordN (runes l)))).length
    · rw [if_pos h12] at h; simp at h
    · rw [if_neg h12]
      refine good_name rfl ?_ hz
      have hw := word_runes _ l (Nat.le_refl _)
      have hpos := wordN_pos hl (.inl h2)
      have hle := wordN_le' _ l (Nat.le_refl _)
      show nameB ⟨(l.take (wordN (runes l))).toArray⟩ = true
      unfold nameB wordyB wordyL
      rw [hbytes, validD_runes]
      simp only [Bool.and_eq_true, Bool.or_eq_true, decide_eq_true_eq, List.all_eq_true]
      refine ⟨⟨⟨fun x hx => ?_, hw, ?_⟩, ?_⟩, by omega⟩
      · have := isW_valid (hw x hx)
        simpa using this
      · rw [← sz_data, hbytes, List.length_take]
        omega
      · rw [getD_take (by omega)]
        by_cases hd : (l.getD 0 0).toNat < 48 ∨ 57 < (l.getD 0 0).toNat
        · exact hd
        · exfalso
          obtain ⟨c, t, rfl⟩ := List.exists_cons_of_ne_nil hl
          simp only [List.getD_cons_zero] at hd
          rw [decodeL_ascii c t (by omega)] at h2
          simp only at h2
          rw [cls_digit (by omega) (by omega)] at h2
          exact absurd h2 (by decide)
  · rw [if_neg h2] at h ⊢
    by_cases h3 : cls (decodeL l).1 = 3
    · rw [if_pos h3] at h ⊢
      cases hb : (numB ⟨(l.take (wordN (runes l))).toArray⟩).2 with
      | false => rw [hb] at h; simp at h
      | true =>
        exact good_num rfl (hn0 ⟨(l.take (wordN (runes l))).toArray⟩)
    · rw [if_neg h3] at h ⊢
      by_cases h5 : cls (decodeL l).1 = 5
      · rw [if_pos h5] at h ⊢
        unfold textF at h ⊢
        simp only at h ⊢
        by_cases c1 : (cut (cut (l.drop 1) [10]).1 [34]).2.2 = false
        · rw [if_pos c1] at h; simp at h
        · rw [if_neg c1] at h ⊢
          split at h
          · simp at h
          · rename_i c2
            rw [if_neg c2]
            split at h
            · simp at h
            · rename_i c3
              rw [if_neg c3]
              exact good_other (k := 3) rfl (by decide) (by decide) (by decide) hz
      · rw [if_neg h5] at h ⊢
        by_cases h4 : cls (decodeL l).1 = 4
        · rw [if_pos h4]
          exact good_other (k := 4) rfl (by decide) (by decide) (by decide) hz
        · rw [if_neg h4] at h
          simp at h
theorem cutG_toks : ∀ (f : Nat) (l : List UInt8) (a : Int) (out : List Tok), l.length < f → (cutG f l a out).2.1 = 0 →
    ∃ ks a', (cutG f l a out).1 = out ++ ks ++ [⟨0, ⟨#[]⟩, 0, a'⟩] ∧ (cutG f l a out).2.2 = 0 ∧ ∀ t, t ∈ ks → TokGood t
  | 0, _, _, _, h, _ => by omega
  | f + 1, l, a, out, h, he => by
    rw [cutG] at he ⊢
    by_cases hl : l = []
    · rw [if_pos hl]
      exact ⟨[], a, by simp, rfl, fun t ht => by simp at ht⟩
    · rw [if_neg hl] at he ⊢
      simp only at he ⊢
      by_cases h2 : (if out.length = 2000 then (2 : Int) else (tokF l).2.2) = 0
      · rw [if_neg (by simpa using h2)] at he ⊢
        have h3 : (tokF l).2.2 = 0 := by
          by_cases ho : out.length = 2000
          · rw [if_pos ho] at h2; omega
          · rw [if_neg ho] at h2; exact h2
        have h4 := tokF_ok hl h3
        have h5 := tokF_good hl h3
        obtain ⟨ks, a', g1, g2, g3⟩ := cutG_toks f _ _ _ (by
          refine Nat.lt_of_le_of_lt (skipN_drop _ _ _) ?_
          rw [List.length_drop]
          omega) he
        refine ⟨{ (tokF l).1 with at_ := a } :: ks, a', by rw [g1]; simp, g2, fun t ht => ?_⟩
        rcases List.mem_cons.1 ht with rfl | ht
        · exact h5
        · exact g3 t ht
      · rw [if_pos h2] at he
        exact absurd he h2
where
  skipN_drop (l : List UInt8) (a : Int) (f : Nat) : (skipF f l a).1.length ≤ l.length := by
    induction f generalizing l a with
    | zero => exact Nat.le_refl _
    | succ f ih =>
      by_cases h : skipN l = 0
      · rw [skipF_end h]; exact Nat.le_refl _
      · rw [skipF_step h]
        exact Nat.le_trans (ih _ _) (by simp)
theorem cutB_toks {s : ByteArray} (h : (cutB s).2.1 = 0) : Vd s.data.toList ∧ ∃ ks a, cutB s = (ks ++ [⟨0, ⟨#[]⟩, 0, a⟩], 0, 0) ∧ ∀ t, t ∈ ks → TokGood t := by
  unfold cutB at h ⊢
  by_cases h1 : 8192 < s.size
  · rw [if_pos h1] at h; simp at h
  · rw [if_neg h1] at h ⊢
    by_cases h2 : 0 ≤ badF 0 (runes s.data.toList)
    · rw [if_pos h2] at h; simp at h
    · rw [if_neg h2] at h ⊢
      have hbad : ∀ (rs : List (Nat × Nat)) (k : Int), 0 ≤ k → badF k rs < 0 → ∀ x, x ∈ rs → x ≠ (65533, 1) := by
        intro rs
        induction rs with
        | nil => intro k _ _ x hx; simp at hx
        | cons r rs ih =>
          intro k hk hb x hx
          rw [badF] at hb
          by_cases hr : r = (65533, 1)
          · rw [if_pos hr] at hb; omega
          · rw [if_neg hr] at hb
            rcases List.mem_cons.1 hx with rfl | hx
            · exact hr
            · exact ih (k + 1) (by omega) hb x hx
      refine ⟨hbad _ 0 (by omega) (by omega), ?_⟩
      obtain ⟨ks, a', g1, g2, g3⟩ := cutG_toks _ _ _ _ (by
        refine Nat.lt_of_le_of_lt (cutG_toks.skipN_drop _ _ _) ?_
        have := sz_data s
        omega) h
      refine ⟨ks, a', ?_, g3⟩
      rw [List.nil_append] at g1
      exact Prod.ext g1 (Prod.ext h g2)
theorem der_kind {n : Nat} {e : Ex} {ts : List Tok} (h : Der n e ts) : ∀ t, t ∈ ts → t.kind ≠ 0 := by
  induction h with
  | num hk => intro t ht; simp at ht; subst ht; omega
  | name hk => intro t ht; simp at ht; subst ht; omega
  | un _ hs _ ih =>
    intro t ht
    rcases List.mem_cons.1 ht with rfl | ht
    · have := hs.1; omega
    · exact ih t ht
  | @par u v _ _ hu hv _ ih =>
    intro t ht
    have hv4 : v.kind = 4 := by unfold isShut at hv; rw [Bool.and_eq_true, beq_iff_eq] at hv; exact hv.1
    simp only [List.mem_cons, List.mem_append, List.not_mem_nil, or_false] at ht
    rcases ht with rfl | ht | rfl
    · have := open_kind hu; omega
    · exact ih t ht
    · omega
  | up _ _ _ ih => exact ih
  | bin _ _ _ _ hs _ _ iha ihb =>
    intro t ht
    rw [List.mem_append, List.mem_cons] at ht
    rcases ht with ht | rfl | ht
    · exact iha t ht
    · have := hs.1; omega
    · exact ihb t ht
  | cmp _ _ hs _ _ iha ihb =>
    intro t ht
    rw [List.mem_append, List.mem_cons] at ht
    rcases ht with ht | rfl | ht
    · exact iha t ht
    · have := hs.1; omega
    · exact ihb t ht
theorem name_size {s : ByteArray} (h : nameB s = true) : s.size ≤ 140737488355328 := by
  have := name_len h
  rw [sz_data] at this
  omega
theorem der_ok {n : Nat} {e : Ex} {ts : List Tok} (h : Der n e ts) : (∀ t, t ∈ ts → TokGood t) → ExOk e := by
  have hz : Fits 0 := ⟨by decide, by decide⟩
  induction h with
  | @num t hk => intro h; exact .mk hz (h t (by simp)).2.2 (by decide) (fun k hk => by simp at hk)
  | @name t hk => intro h; exact .mk ⟨by decide, by decide⟩ hz (name_size ((h t (by simp)).2.1.2 hk)) (fun k hk => by simp at hk)
  | @un op t e ts ho _ _ ih =>
    intro h
    exact .mk ⟨by omega, by omega⟩ hz (by decide) (fun k hk => by simp at hk; subst hk; exact ih (fun t ht => h t (by simp [ht])))
  | par _ _ _ ih => intro h; exact ih (fun t ht => h t (by simp [ht]))
  | up _ _ _ ih => exact ih
  | bin h4 h16 _ _ _ _ _ iha ihb =>
    intro h
    refine .mk ⟨by omega, by omega⟩ hz (by decide) (fun k hk => ?_)
    simp at hk
    rcases hk with rfl | rfl
    · exact iha (fun t ht => h t (by simp [ht]))
    · exact ihb (fun t ht => h t (by simp [ht]))
  | cmp h9 h14 _ _ _ iha ihb =>
    intro h
    refine .mk ⟨by omega, by omega⟩ hz (by decide) (fun k hk => ?_)
    simp at hk
    rcases hk with rfl | rfl
    · exact iha (fun t ht => h t (by simp [ht]))
    · exact ihb (fun t ht => h t (by simp [ht]))
/-- What is parsed: all tokens but the end derive it. -/
theorem parse_sound {s : ByteArray} (h : (parseP s).2.1 = 0) : Vd s.data.toList ∧ ∃ ts a, cutB s = (ts ++ [⟨0, ⟨#[]⟩, 0, a⟩], 0, 0) ∧ Der 1 (parseP s).1 ts ∧ ts.length ≤ 64 ∧ (∀ t, t ∈ ts → TokGood t) ∧ (parseP s).2.2 = 0 := by
  unfold parseP at h ⊢
  simp only at h ⊢
  by_cases hc : (cutB s).2.1 = 0
  · obtain ⟨hv, ks, a, hcut, hg⟩ := cutB_toks hc
    rw [hcut] at h ⊢
    simp only [ne_eq, not_true_eq_false, if_false] at h ⊢
    by_cases he : (takeP (ks ++ [⟨0, ⟨#[]⟩, 0, a⟩]) 0).2.1 = 0 ∧ (tokAt (ks ++ [⟨0, ⟨#[]⟩, 0, a⟩]) (takeP (ks ++ [⟨0, ⟨#[]⟩, 0, a⟩]) 0).2.2).kind ≠ 0
    · rw [if_pos he, if_pos (by decide)] at h
      simp at h
    · rw [if_neg he] at h ⊢
      by_cases ht : (takeP (ks ++ [⟨0, ⟨#[]⟩, 0, a⟩]) 0).2.1 = 0
      · rw [if_neg (by simpa using ht)]
        obtain ⟨ts, d1, d2, d3, d4⟩ := takeP_sound ht
        have hk0 : (tokAt (ks ++ [⟨0, ⟨#[]⟩, 0, a⟩]) (takeP (ks ++ [⟨0, ⟨#[]⟩, 0, a⟩]) 0).2.2).kind = 0 := by
          apply Classical.byContradiction
          intro hn
          exact he ⟨ht, hn⟩
        rw [d3, Int.zero_add] at hk0
        have hts : ts = ks := by
          have hle : ts.length ≤ ks.length := by
            apply Nat.le_of_not_lt
            intro hlt
            have h1 := d2 ks.length hlt
            rw [Int.zero_add, tokAt_end] at h1
            have h2 := der_kind d1 _ (List.getElem_mem hlt)
            rw [← h1] at h2
            exact h2 rfl
          have hge : ks.length ≤ ts.length := by
            apply Nat.le_of_not_lt
            intro hlt
            rw [tokAt_app _ _ _ hlt] at hk0
            exact (hg _ (List.getElem_mem hlt)).1 hk0
          refine List.ext_getElem (by omega) (fun j h1 h2 => ?_)
          have := d2 j h1
          rw [Int.zero_add, tokAt_app _ _ _ h2] at this
          exact this.symm
        subst hts
        exact ⟨hv, ts, a, rfl, d1, d4, hg, rfl⟩
      · rw [if_pos ht] at h
        exact absurd h ht
  · rw [if_pos hc] at h
    exact absurd h hc
/-- Printed and parsed again, and no more tokens. -/
theorem parse_again {s : ByteArray} (h : (parseP s).2.1 = 0) : ExOk (parseP s).1 ∧ eMay (parseP s).1 = true ∧ parseP (str (eText (parseP s).1)) = ((parseP s).1, 0, 0) ∧
    (cutB (str (eText (parseP s).1))).1.length ≤ (cutB s).1.length := by
  obtain ⟨_, ts, a, hc, hd, hl, hg, _⟩ := parse_sound h
  have hw := der_wf hd (fun t ht => (hg t ht).2.1)
  have hk := der_ok hd hg
  have hcs := der_cst hd
  obtain ⟨us, b, g1, g2, g3⟩ := cut_text hw hk (by omega)
  refine ⟨hk, (may_iff _).2 ⟨hw, by omega⟩, parse_der g3 g1 (by omega), ?_⟩
  rw [g3, hc]
  simp
  omega
end Go.Proofs.YtgcfjkfipkfijaaGreatDoor
