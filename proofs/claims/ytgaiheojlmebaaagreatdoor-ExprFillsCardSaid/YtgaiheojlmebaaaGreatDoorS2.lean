/- The reference's rune, as a plain function: it is the model's own, but for bad bytes. -/
import Derived.Test.YtgaiheojlmebaaaGreatDoorTokB
namespace Go.Proofs.YtgaiheojlmebaaaGreatDoor
open Go Go.RowKit Go.Lib

/-- A byte of a text. -/
def byteZ (s : ByteArray) (j : Nat) : Int := ((s.data.toList.getD j 0).toNat : Int)
theorem byteZ_fits (s : ByteArray) (j : Nat) : 0 ≤ byteZ s j ∧ byteZ s j ≤ 255 := by
  have := (s.data.toList.getD j 0).toNat_lt
  unfold byteZ
  omega
theorem byteZ_get (s : ByteArray) (j : Nat) (h : j < s.size) : byteZ s j = ((s.get! j).toNat : Int) := by
  have h1 : j < s.data.size := h
  unfold byteZ
  rw [List.getD_eq_getElem?_getD]
  have h2 : s.get! j = s.data[j]! := rfl
  rw [h2, getElem!_pos s.data j h1, List.getElem?_eq_getElem (by simpa using h1)]
  simp
/-- The bytes behind the first: so many, from the k-th on. -/
def tailB (s : ByteArray) (i : Nat) : Nat → Nat → Int → Int
  | 0, _, b => b
  | m + 1, k, b => if byteZ s (i + k) < 128 ∨ 192 ≤ byteZ s (i + k) then -1 else tailB s i m (k + 1) (64 * b + byteZ s (i + k) - 128)
/-- What a number of so many bytes is. -/
def runeR (n least c : Int) : Int × Int := if c < least ∨ 1114111 < c ∨ 55296 ≤ c ∧ c ≤ 57343 then (0, 0) else (c, n)
def runeG (s : ByteArray) (i : Nat) (m : Nat) (least b : Int) : Int × Int := if (s.size : Int) - i < m + 1 then (0, 0) else runeR (m + 1) least (tailB s i m 1 b)
def runeX (s : ByteArray) (i : Nat) : Int × Int :=
  if byteZ s i < 128 then (byteZ s i, 1)
  else if 192 ≤ byteZ s i ∧ byteZ s i < 224 then runeG s i 1 128 (byteZ s i - 192)
  else if 224 ≤ byteZ s i ∧ byteZ s i < 240 then runeG s i 2 2048 (byteZ s i - 224)
  else if 240 ≤ byteZ s i ∧ byteZ s i < 248 then runeG s i 3 65536 (byteZ s i - 240)
  else (0, 0)
def rune1 (p : Nat × Nat) : Int × Int := if p = (65533, 1) then (0, 0) else ((p.1 : Int), (p.2 : Int))
theorem rune1_bad : rune1 (65533, 1) = (0, 0) := rfl
theorem rune1_ok {a b : Nat} (h : ¬ (a = 65533 ∧ b = 1)) : rune1 (a, b) = ((a : Int), (b : Int)) := by
  unfold rune1
  rw [if_neg (fun e => h (by simpa using e))]
theorem decode_eq (s : ByteArray) (i : Nat) : Utf8.decode s i =
    if (s.get! i).toNat < 128 then ((s.get! i).toNat, 1)
    else if (s.get! i).toNat / 32 = 6 ∧ (i + 1 < s.size ∧ (s.get! (i + 1)).toNat / 64 = 2) then
      (if 128 ≤ (s.get! i).toNat % 32 * 64 + (s.get! (i + 1)).toNat % 64 then ((s.get! i).toNat % 32 * 64 + (s.get! (i + 1)).toNat % 64, 2) else (65533, 1))
    else if (s.get! i).toNat / 16 = 14 ∧ (i + 1 < s.size ∧ (s.get! (i + 1)).toNat / 64 = 2) ∧ (i + 2 < s.size ∧ (s.get! (i + 2)).toNat / 64 = 2) then
      (if 2048 ≤ (s.get! i).toNat % 16 * 4096 + (s.get! (i + 1)).toNat % 64 * 64 + (s.get! (i + 2)).toNat % 64 ∧ Utf8.valid (((s.get! i).toNat % 16 * 4096 + (s.get! (i + 1)).toNat % 64 * 64 + (s.get! (i + 2)).toNat % 64 : Nat) : Int) = true
        then ((s.get! i).toNat % 16 * 4096 + (s.get! (i + 1)).toNat % 64 * 64 + (s.get! (i + 2)).toNat % 64, 3) else (65533, 1))
    else if (s.get! i).toNat / 8 = 30 ∧ (i + 1 < s.size ∧ (s.get! (i + 1)).toNat / 64 = 2) ∧ (i + 2 < s.size ∧ (s.get! (i + 2)).toNat / 64 = 2) ∧ (i + 3 < s.size ∧ (s.get! (i + 3)).toNat / 64 = 2) then
      (if 65536 ≤ (s.get! i).toNat % 8 * 262144 + (s.get! (i + 1)).toNat % 64 * 4096 + (s.get! (i + 2)).toNat % 64 * 64 + (s.get! (i + 3)).toNat % 64 ∧ Utf8.valid (((s.get! i).toNat % 8 * 262144 + (s.get! (i + 1)).toNat % 64 * 4096 + (s.get! (i + 2)).toNat % 64 * 64 + (s.get! (i + 3)).toNat % 64 : Nat) : Int) = true
        then ((s.get! i).toNat % 8 * 262144 + (s.get! (i + 1)).toNat % 64 * 4096 + (s.get! (i + 2)).toNat % 64 * 64 + (s.get! (i + 3)).toNat % 64, 4) else (65533, 1))
    else (65533, 1) := by
  unfold Utf8.decode Utf8.runeError
  simp only [Nat.add_zero, Bool.and_eq_true, beq_iff_eq, decide_eq_true_eq, and_assoc, ge_iff_le]
theorem valid_iff (c : Nat) : Utf8.valid (c : Int) = true ↔ c < 55296 ∨ (57344 ≤ c ∧ c ≤ 1114111) := by
  unfold Utf8.valid
  simp only [Bool.or_eq_true, Bool.and_eq_true, decide_eq_true_eq]
  omega
theorem runeX_eq (s : ByteArray) (i : Nat) (h : i < s.size) : runeX s i = rune1 (Utf8.decode s i) := by
  rw [decode_eq]
  have hb0 := (s.get! i).toNat_lt
  have hb1 := (s.get! (i + 1)).toNat_lt
  have hb2 := (s.get! (i + 2)).toNat_lt
  have hb3 := (s.get! (i + 3)).toNat_lt
  have e0 := byteZ_get s i h
  have e1 := byteZ_get s (i + 1)
  have e2 := byteZ_get s (i + 2)
  have e3 := byteZ_get s (i + 3)
  unfold runeX
  rw [e0]
  generalize (s.get! i).toNat = b0 at *
  generalize (s.get! (i + 1)).toNat = b1 at *
  generalize (s.get! (i + 2)).toNat = b2 at *
  generalize (s.get! (i + 3)).toNat = b3 at *
  by_cases h1 : b0 < 128
  · rw [if_pos h1, if_pos (by omega), rune1_ok (by omega)]; rfl
  rw [if_neg h1, if_neg (by omega)]
  by_cases h2 : 192 ≤ b0 ∧ b0 < 224
  · rw [if_pos (show 192 ≤ (b0 : Int) ∧ (b0 : Int) < 224 by omega)]
    unfold runeG
    by_cases hs1 : i + 1 < s.size
    · rw [if_neg (show ¬ ((s.size : Int) - i < ((1 : Nat) : Int) + 1) by omega)]
      simp only [tailB]
      rw [e1 hs1]
      by_cases hc1 : b1 / 64 = 2
      · rw [if_neg (show ¬ ((b1 : Int) < 128 ∨ 192 ≤ (b1 : Int)) by omega), if_pos ⟨by omega, hs1, hc1⟩]
        unfold runeR
        split
        · rw [if_neg (by omega)]; rfl
        · rw [if_pos (by omega), rune1_ok (by omega)]
          refine Prod.ext ?_ rfl
          show _ = _
          simp only
          omega
      · rw [if_pos (show ((b1 : Int) < 128 ∨ 192 ≤ (b1 : Int)) by omega), if_neg (fun h => hc1 h.2.2), if_neg (by omega), if_neg (by omega)]
        rfl
    · rw [if_pos (show ((s.size : Int) - i < ((1 : Nat) : Int) + 1) by omega), if_neg (fun h => hs1 h.2.1), if_neg (by omega), if_neg (by omega)]
      rfl
  rw [if_neg (show ¬ (192 ≤ (b0 : Int) ∧ (b0 : Int) < 224) by omega), if_neg (show ¬ (b0 / 32 = 6 ∧ i + 1 < s.size ∧ b1 / 64 = 2) by omega)]
  by_cases h3 : 224 ≤ b0 ∧ b0 < 240
  · rw [if_pos (show 224 ≤ (b0 : Int) ∧ (b0 : Int) < 240 by omega)]
    unfold runeG
    by_cases hs2 : i + 2 < s.size
    · rw [if_neg (show ¬ ((s.size : Int) - i < ((2 : Nat) : Int) + 1) by omega)]
      simp only [tailB]
      rw [e1 (by omega), e2 hs2]
      by_cases hc1 : b1 / 64 = 2
      · rw [if_neg (show ¬ ((b1 : Int) < 128 ∨ 192 ≤ (b1 : Int)) by omega)]
        by_cases hc2 : b2 / 64 = 2
        · rw [if_neg (show ¬ ((b2 : Int) < 128 ∨ 192 ≤ (b2 : Int)) by omega), if_pos ⟨by omega, ⟨by omega, hc1⟩, hs2, hc2⟩]
          unfold runeR
          split
          · rw [if_neg (by rw [valid_iff]; omega)]; rfl
          · rw [if_pos (by rw [valid_iff]; omega), rune1_ok (by omega)]
            refine Prod.ext ?_ rfl
            simp only
            omega
        · rw [if_pos (show ((b2 : Int) < 128 ∨ 192 ≤ (b2 : Int)) by omega), if_neg (fun h => hc2 h.2.2.2), if_neg (by omega)]
          rfl
      · rw [if_pos (show ((b1 : Int) < 128 ∨ 192 ≤ (b1 : Int)) by omega), if_neg (fun h => hc1 h.2.1.2), if_neg (by omega)]
        rfl
    · rw [if_pos (show ((s.size : Int) - i < ((2 : Nat) : Int) + 1) by omega), if_neg (fun h => hs2 h.2.2.1), if_neg (by omega)]
      rfl
  rw [if_neg (show ¬ (224 ≤ (b0 : Int) ∧ (b0 : Int) < 240) by omega), if_neg (show ¬ (b0 / 16 = 14 ∧ (i + 1 < s.size ∧ b1 / 64 = 2) ∧ i + 2 < s.size ∧ b2 / 64 = 2) by omega)]
  by_cases h4 : 240 ≤ b0 ∧ b0 < 248
  · rw [if_pos (show 240 ≤ (b0 : Int) ∧ (b0 : Int) < 248 by omega)]
    unfold runeG
    by_cases hs3 : i + 3 < s.size
    · rw [if_neg (show ¬ ((s.size : Int) - i < ((3 : Nat) : Int) + 1) by omega)]
      simp only [tailB]
      rw [e1 (by omega), e2 (by omega), e3 hs3]
      by_cases hc1 : b1 / 64 = 2
      · rw [if_neg (show ¬ ((b1 : Int) < 128 ∨ 192 ≤ (b1 : Int)) by omega)]
        by_cases hc2 : b2 / 64 = 2
        · rw [if_neg (show ¬ ((b2 : Int) < 128 ∨ 192 ≤ (b2 : Int)) by omega)]
          by_cases hc3 : b3 / 64 = 2
          · rw [if_neg (show ¬ ((b3 : Int) < 128 ∨ 192 ≤ (b3 : Int)) by omega), if_pos ⟨by omega, ⟨by omega, hc1⟩, ⟨by omega, hc2⟩, hs3, hc3⟩]
            unfold runeR
            split
            · rw [if_neg (by rw [valid_iff]; omega)]; rfl
            · rw [if_pos (by rw [valid_iff]; omega), rune1_ok (by omega)]
              refine Prod.ext ?_ rfl
              simp only
              omega
          · rw [if_pos (show ((b3 : Int) < 128 ∨ 192 ≤ (b3 : Int)) by omega), if_neg (fun h => hc3 h.2.2.2.2)]
            rfl
        · rw [if_pos (show ((b2 : Int) < 128 ∨ 192 ≤ (b2 : Int)) by omega), if_neg (fun h => hc2 h.2.2.1.2)]
          rfl
      · rw [if_pos (show ((b1 : Int) < 128 ∨ 192 ≤ (b1 : Int)) by omega), if_neg (fun h => hc1 h.2.1.2)]
        rfl
    · rw [if_pos (show ((s.size : Int) - i < ((3 : Nat) : Int) + 1) by omega), if_neg (fun h => hs3 h.2.2.2.1)]
      rfl
  rw [if_neg (show ¬ (240 ≤ (b0 : Int) ∧ (b0 : Int) < 248) by omega), if_neg (fun h => by omega)]
  rfl

/-- A text's runes and where each begins, up to the first bad byte; false: there is one. -/
def rowsF : List (Nat × Nat) → Nat → List Int
  | [], _ => []
  | r :: rs, p => if r = (65533, 1) then [] else (r.1 : Int) :: rowsF rs (p + r.2)
def rowsA : List (Nat × Nat) → Nat → List Int
  | [], p => [(p : Int)]
  | r :: rs, p => if r = (65533, 1) then [] else (p : Int) :: rowsA rs (p + r.2)
def rowsOk : List (Nat × Nat) → Bool
  | [] => true
  | r :: rs => if r = (65533, 1) then false else rowsOk rs
theorem rowsOk_valid (l : List (Nat × Nat)) : rowsOk l = l.all (fun r => !(r == (65533, 1))) := by
  induction l with
  | nil => rfl
  | cons r rs ih =>
    rw [rowsOk, List.all_cons, ih]
    by_cases h : r = (65533, 1)
    · rw [if_pos h, beq_iff_eq.2 h]; rfl
    · rw [if_neg h, beq_eq_false_iff_ne.2 h]; rfl
theorem rowsF_ok : ∀ (l : List (Nat × Nat)) (p : Nat), rowsOk l = true → rowsF l p = l.map (fun r => (r.1 : Int))
  | [], _, _ => rfl
  | r :: rs, p, h => by
    rw [rowsOk] at h
    rw [rowsF]
    by_cases e : r = (65533, 1)
    · rw [if_pos e] at h; cases h
    · rw [if_neg e] at h
      rw [if_neg e, rowsF_ok rs _ h]; rfl
end Go.Proofs.YtgaiheojlmebaaaGreatDoor
