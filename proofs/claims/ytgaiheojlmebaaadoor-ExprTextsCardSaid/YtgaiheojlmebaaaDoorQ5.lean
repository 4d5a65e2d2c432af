/- Walks: the reference's past, word, part, Number. Walks: the reference's word, part, Number. -/
import Derived.Test.YtgaiheojlmebaaaDoorQ3
import Derived.Test.YtgaiheojlmebaaaDoorS7
import Derived.BigQuiet
/-! Walks: the reference's past, word, part, Number. -/
namespace Go.Proofs.YtgaiheojlmebaaaDoor
open Go Go.RowKit Go.Lib

/-- Where the runes begin, and where the text ends. -/
def plc (l : List UInt8) : List Int := rowsA (runes l) 0
theorem rowsA_len : ∀ (rs : List (Nat × Nat)) (p : Nat), (∀ x, x ∈ rs → x ≠ (65533, 1)) → (rowsA rs p).length = rs.length + 1
  | [], p, _ => rfl
  | r :: rs, p, h => by
    rw [rowsA, if_neg (h r (by simp)), List.length_cons, rowsA_len rs _ (fun x hx => h x (by simp [hx])), List.length_cons]
theorem rowsA_at : ∀ (rs : List (Nat × Nat)) (p k : Nat), (∀ x, x ∈ rs → x ≠ (65533, 1)) → k ≤ rs.length → (rowsA rs p)[k]? = some ((p + wid (rs.take k) : Nat) : Int)
  | [], p, k, _, hk => by
    obtain rfl : k = 0 := by simpa using hk
    rfl
  | r :: rs, p, 0, h, _ => by
    rw [rowsA, if_neg (h r (by simp))]
    rfl
  | r :: rs, p, k + 1, h, hk => by
    rw [rowsA, if_neg (h r (by simp)), List.getElem?_cons_succ, rowsA_at rs (p + r.2) k (fun x hx => h x (by simp [hx])) (by simpa using hk), List.take_succ_cons, wid, Nat.add_assoc]
theorem plc_len {l : List UInt8} (hv : Vd l) : (plc l).length = (rv l).length + 1 := by rw [rv_len]; exact rowsA_len _ _ hv
theorem plc_at {l : List UInt8} (hv : Vd l) {k : Nat} (h : k ≤ (rv l).length) : (plc l)[k]? = some (bw l k : Int) := by
  have := rowsA_at (runes l) 0 k hv (by rwa [rv_len] at h)
  rwa [Nat.zero_add] at this
/-- A text that was read lies in memory. -/
structure Txt (w : World) (s : ByteArray) (A : Option Addr) (a : Nat) (B : Option Addr) (b : Nat) : Prop where
  vd : Vd s.data.toList
  size : s.size ≤ 8192
  r : intK.Row [] w A (rv s.data.toList)
  ra : (rv s.data.toList).length ≤ a
  z : intK.Row [] w B (plc s.data.toList)
  zb : (plc s.data.toList).length ≤ b
theorem Txt.below {w w' : World} {s : ByteArray} {A B : Option Addr} {a b : Nat} (h : Txt w s A a B b) (hb : Below w.heap.size w w') : Txt w' s A a B b :=
  ⟨h.vd, h.size, h.r.keep (Same.of_below hb), h.ra, h.z.keep (Same.of_below hb), h.zb⟩
theorem Txt.runes_le {w : World} {s : ByteArray} {A B : Option Addr} {a b : Nat} (h : Txt w s A a B b) : (rv s.data.toList).length ≤ 8192 := by
  have h1 := runes_len s.data.toList
  rw [rv_len]
  rw [size_data] at h1
  have := h.size
  omega
abbrev txV (s : ByteArray) (A : Option Addr) (a : Nat) (B : Option Addr) (b : Nat) : Value := .agg #[.string s, .slice A (rv s.data.toList).length a, .slice B (plc s.data.toList).length b]
theorem pastN_hash {c : Int} {cs : List Int} (h : cls c = 6) : pastN false (c :: cs) = pastN true (c :: cs) := by
  have := cls_hash h
  simp only [pastN]
  rw [if_pos h, if_neg (by omega)]
theorem pastN_line (cs : List Int) : pastN true (10 :: cs) = pastN false (10 :: cs) := by
  rw [show pastN true (10 :: cs) = 1 + pastN false cs from if_pos rfl, show pastN false (10 :: cs) = 1 + pastN false cs from (if_neg (by decide)).trans (if_pos (by decide))]
theorem xclass_q (r : Int) (w : World) : Calls Tryd.prog 69 #[.int .i64 r] w fun e w' => e = .returned (.int .i64 (cls r)) ∧ w = w' := (xclass_any r w).mono (fun _ _ h => ⟨h.1, h.2.symm⟩)
theorem xwordy_q (r : Int) (w : World) : Calls Tryd.prog 98 #[.int .i64 r] w fun e w' => e = .returned (.bool (isWz r)) ∧ w = w' := (xwordy_any r w).mono (fun _ _ h => ⟨h.1, h.2.symm⟩)

set_option maxHeartbeats 8000000 in
set_option maxRecDepth 100000 in
theorem xpast_any (s : ByteArray) (A : Option Addr) (a : Nat) (B : Option Addr) (b : Nat) (i : Nat) (w : World) (h : Txt w s A a B b) (hi : i ≤ (rv s.data.toList).length) :
    Calls Tryd.prog 41 #[txV s A a B b, .int .i64 i] w fun r w' => r = .returned (.int .i64 ((i + pastN false ((rv s.data.toList).drop i) : Nat) : Int)) ∧ Below w.heap.size w w' := by
  have hn := h.runes_le
  have hra := h.ra
  have HR := Lib.hid h.r
  unfold txV
  generalize rv s.data.toList = R at *
  generalize (plc s.data.toList).length = L2
  obtain ⟨ANS, hANS⟩ : ∃ x, i + pastN false (R.drop i) = x := ⟨_, rfl⟩
  rw [hANS]
  have HANS := Lib.hid hANS
  have hnz : (R.length : Int) ≤ 8192 := by omega
  have hraz : (R.length : Int) ≤ a := by omega
  obtain ⟨w0, hw0⟩ : ∃ w', w.alloc (.cells #[.string s, .slice A R.length a, .slice B L2 b] 68 (0, 0)) = w' := ⟨_, rfl⟩
  have hb0 : Below w.heap.size w w0 := hw0 ▸ (Below.refl _ _).alloc (Nat.le_refl _) _
  have hq : TxB w0 w.heap.size s (.slice A R.length a) (.slice B L2 b) := hw0 ▸ heap_alloc_new _ _
  obtain ⟨⟨y0, y1, y2⟩, _⟩ := blk3 hq
  have HR0 := Lib.hid (HR.out.keep (Same.of_below (M := []) hb0))
  have HB0 := Lib.hid hb0
  have hlq := blk_lt hq
  have HW0 := Lib.hid hw0
  clear hANS hb0 hq hw0 h
  go_enter Tryd.func41, Tryd.ntmps41
  go_wp2_with fail
  rw [HW0.out]
  go_loopg [1] (R.length + 1) (fun k s1 w' => ∃ j : Nat, s1 = .int .i64 j ∧ j ≤ R.length ∧ R.length - j < k ∧ j + pastN false (R.drop j) = ANS ∧ w' = w0)
  case atStart => exact ⟨i, rfl, hi, by omega, HANS.out, rfl⟩
  case round =>
    obtain ⟨j, rfl, hj, hjk, hans, rfl⟩ := hrel
    obtain ⟨go, rfl⟩ : ∃ k, gk = k + 1 := ⟨gk - 1, by omega⟩
    have hj0 : (0 : Int) ≤ j := by omega
    by_cases hlt : j < R.length
    · have hltz : (j : Int) < R.length := by omega
      obtain ⟨ad, rfl⟩ := row_some HR0.out (by omega)
      obtain ⟨ad', e0, x0⟩ := int_at HR0.out j hlt
      injection e0 with e0
      subst e0
      have hlt2 := World.block_lt_of_cell? wr _ x0
      rw [drop_cons R j hlt] at hans
      obtain ⟨r, hr⟩ : ∃ r, R[j] = r := ⟨_, rfl⟩
      rw [hr] at x0 hans
      have HRJ := Lib.hid hr
      have HC := Lib.hid (fun W => xclass_q r W)
      obtain ⟨c, hc⟩ : ∃ c, cls r = c := ⟨_, rfl⟩
      rw [hc] at HC
      have HCC := Lib.hid hc
      have HN := Lib.hid hans
      clear hans hc hr
      by_cases h6 : c = 6
      · subst h6
        have h35 := cls_hash HCC.out
        have HNE : Hid (r ≠ 10) := Lib.hid (by omega)
        clear h35
        go_wp2_with (go_at_call 69; refine (HC.out _).mono ?_; rintro e w' ⟨rfl, rfl⟩)
        go_loopg [1] (R.length + 1) (fun k s1 w' => ∃ m : Nat, s1 = .int .i64 m ∧ j ≤ m ∧ m ≤ R.length ∧ R.length - m < k ∧ m + pastN true (R.drop m) = ANS ∧ w' = wr)
        case atStart => exact ⟨j, rfl, Nat.le_refl _, by omega, by omega, by have := HN.out; rw [pastN_hash HCC.out] at this; rw [drop_cons R j hlt, HRJ.out]; exact this, rfl⟩
        case round =>
          obtain ⟨m, rfl, hm1, hm2, hmk, hans, rfl⟩ := hrel
          obtain ⟨gi, rfl⟩ : ∃ k, gk = k + 1 := ⟨gk - 1, by omega⟩
          have hm0 : (0 : Int) ≤ m := by omega
          clear x0 hlt2
          by_cases hml : m < R.length
          · have hmlz : (m : Int) < R.length := by omega
            obtain ⟨ad', e0, x0⟩ := int_at HR0.out m hml
            injection e0 with e0
            subst e0
            have hlt2 := World.block_lt_of_cell? wr _ x0
            rw [drop_cons R m hml] at hans
            obtain ⟨q, hq⟩ : ∃ q, R[m] = q := ⟨_, rfl⟩
            rw [hq] at x0 hans
            have HQ := Lib.hid hq
            have HM := Lib.hid hans
            clear hans hq
            by_cases h10 : q = 10
            · subst h10
              have hgt : j < m := by
                have hne : m ≠ j := by
                  rintro rfl
                  exact HNE.out (HRJ.out.symm.trans HQ.out)
                omega
              go_wp2_with fail
              go_roundg go
              case measure => omega
              case rel => exact ⟨m, rfl, hm2, by omega, by have := HM.out; rw [pastN_line, ← HQ.out, ← drop_cons R m hml] at this; exact this, rfl⟩
            · have h10b : (q != 10) = true := bnet h10
              have HN2 : Hid ((m + 1) + pastN true (R.drop (m + 1)) = ANS) := Lib.hid (by
                have := HM.out
                rw [show pastN true (q :: R.drop (m + 1)) = 1 + pastN true (R.drop (m + 1)) from if_neg h10] at this
                omega)
              clear h10
              go_wp2_with fail
              go_roundg gi
              case measure => omega
              case rel => exact ⟨m + 1, by go_num, by omega, by omega, by omega, HN2.out, rfl⟩
          · obtain rfl : m = R.length := by omega
            rw [List.drop_length] at hans
            have HM := Lib.hid hans
            clear hans
            have hnl : ¬ ((R.length : Int) < R.length) := by omega
            go_wp2_with fail
            go_roundg go
            case measure => omega
            case rel => exact ⟨R.length, rfl, hm2, by omega, by rw [List.drop_length]; exact HM.out, rfl⟩
      · by_cases h1 : c = 1
        · subst h1
          have HN2 : Hid ((j + 1) + pastN false (R.drop (j + 1)) = ANS) := Lib.hid (by
            have := HN.out
            rw [show pastN false (r :: R.drop (j + 1)) = 1 + pastN false (R.drop (j + 1)) from (if_neg (by rw [HCC.out]; decide)).trans (if_pos HCC.out)] at this
            omega)
          clear h6
          go_wp2_with (go_at_call 69; refine (HC.out _).mono ?_; rintro e w' ⟨rfl, rfl⟩)
          go_roundg go
          case measure => omega
          case rel => exact ⟨j + 1, by go_num, by omega, by omega, HN2.out, rfl⟩
        · have h6b : (c == 6) = false := beqf h6
          have h1b : (c != 1) = true := bnet h1
          have HN2 : Hid (j = ANS) := Lib.hid (by
            have := HN.out
            rw [show pastN false (r :: R.drop (j + 1)) = 0 from (if_neg (by rw [HCC.out]; exact h6)).trans (if_neg (by rw [HCC.out]; exact h1))] at this
            omega)
          clear h6 h1
          go_wp2_with (go_at_call 69; refine (HC.out _).mono ?_; rintro e w' ⟨rfl, rfl⟩)
          go_ret
          exact ⟨ret_int (by rw [HN2.out]), HB0.out⟩
    · obtain rfl : j = R.length := by omega
      rw [List.drop_length] at hans
      have HN2 : Hid (R.length = ANS) := Lib.hid (by simpa [pastN] using hans)
      clear hans
      have hnl : ¬ ((R.length : Int) < R.length) := by omega
      go_wp2_with fail
      go_ret
      exact ⟨ret_int (by rw [HN2.out]), HB0.out⟩
end Go.Proofs.YtgaiheojlmebaaaDoor
/-! Walks: the reference's word, part, Number. -/
namespace Go.Proofs.YtgaiheojlmebaaaDoor
open Go Go.RowKit Go.Lib

set_option maxHeartbeats 8000000 in
set_option maxRecDepth 100000 in
theorem xword_any (s : ByteArray) (A : Option Addr) (a : Nat) (B : Option Addr) (b : Nat) (i : Nat) (w : World) (h : Txt w s A a B b) (hi : i ≤ (rv s.data.toList).length) :
    Calls Tryd.prog 70 #[txV s A a B b, .int .i64 i] w fun r w' => r = .returned (.int .i64 ((i + wordC ((rv s.data.toList).drop i) : Nat) : Int)) ∧ Below w.heap.size w w' := by
  have hn := h.runes_le
  have hra := h.ra
  have HR := Lib.hid h.r
  unfold txV
  generalize rv s.data.toList = R at *
  generalize (plc s.data.toList).length = L2
  obtain ⟨ANS, hANS⟩ : ∃ x, i + wordC (R.drop i) = x := ⟨_, rfl⟩
  rw [hANS]
  have HANS := Lib.hid hANS
  have hnz : (R.length : Int) ≤ 8192 := by omega
  have hraz : (R.length : Int) ≤ a := by omega
  obtain ⟨w0, hw0⟩ : ∃ w', w.alloc (.cells #[.string s, .slice A R.length a, .slice B L2 b] 68 (0, 0)) = w' := ⟨_, rfl⟩
  have hb0 : Below w.heap.size w w0 := hw0 ▸ (Below.refl _ _).alloc (Nat.le_refl _) _
  have hq : TxB w0 w.heap.size s (.slice A R.length a) (.slice B L2 b) := hw0 ▸ heap_alloc_new _ _
  obtain ⟨⟨y0, y1, y2⟩, _⟩ := blk3 hq
  have HR0 := Lib.hid (HR.out.keep (Same.of_below (M := []) hb0))
  have HB0 := Lib.hid hb0
  have hlq := blk_lt hq
  have HW0 := Lib.hid hw0
  clear hANS hb0 hq hw0 h
  go_enter Tryd.func70, Tryd.ntmps70
  go_wp2_with fail
  rw [HW0.out]
  go_loopg [1] (R.length + 1) (fun k s1 w' => ∃ j : Nat, s1 = .int .i64 j ∧ j ≤ R.length ∧ R.length - j < k ∧ j + wordC (R.drop j) = ANS ∧ w' = w0)
  case atStart => exact ⟨i, rfl, hi, by omega, HANS.out, rfl⟩
  case round =>
    obtain ⟨j, rfl, hj, hjk, hans, rfl⟩ := hrel
    obtain ⟨gk, rfl⟩ : ∃ k, gk = k + 1 := ⟨gk - 1, by omega⟩
    have hj0 : (0 : Int) ≤ j := by omega
    by_cases hlt : j < R.length
    · have hltz : (j : Int) < R.length := by omega
      obtain ⟨ad, rfl⟩ := row_some HR0.out (by omega)
      obtain ⟨ad', e0, x0⟩ := int_at HR0.out j hlt
      injection e0 with e0
      subst e0
      have hlt2 := World.block_lt_of_cell? wr _ x0
      rw [drop_cons R j hlt, wordC] at hans
      obtain ⟨r, hr⟩ : ∃ r, R[j] = r := ⟨_, rfl⟩
      rw [hr] at x0 hans
      have HC := Lib.hid (fun W => xwordy_q r W)
      obtain ⟨c, hc⟩ : ∃ c, isWz r = c := ⟨_, rfl⟩
      rw [hc] at HC hans
      cases c
      · have HN : Hid (j = ANS) := Lib.hid (by simpa using hans)
        clear hans hc hr
        go_wp2_with (go_at_call 98; refine (HC.out _).mono ?_; rintro e w' ⟨rfl, rfl⟩)
        go_ret
        exact ⟨ret_int (by rw [HN.out]), HB0.out⟩
      · have HN : Hid ((j + 1) + wordC (R.drop (j + 1)) = ANS) := Lib.hid (by rw [if_pos rfl] at hans; omega)
        clear hans hc hr
        go_wp2_with (go_at_call 98; refine (HC.out _).mono ?_; rintro e w' ⟨rfl, rfl⟩)
        go_roundg gk
        case measure => omega
        case rel => exact ⟨j + 1, by go_num, by omega, by omega, HN.out, rfl⟩
    · obtain rfl : j = R.length := by omega
      rw [List.drop_length] at hans
      have HN2 : Hid (R.length = ANS) := Lib.hid (by simpa [wordC] using hans)
      clear hans
      have hnl : ¬ ((R.length : Int) < R.length) := by omega
      go_wp2_with fail
      go_ret
      exact ⟨ret_int (by rw [HN2.out]), HB0.out⟩

theorem plc_cell {w : World} {B : Option Addr} {l : List UInt8} (h : intK.Row [] w B (plc l)) (hv : Vd l) {k : Nat} (hk : k ≤ (rv l).length) : ∃ ad, B = some ad ∧ w.cell? (ad.add k) = some (.int .i64 (bw l k : Int)) := by
  have hl := plc_len hv
  obtain ⟨ad, e, hc⟩ := int_at h k (by omega)
  have h2 := plc_at hv hk
  rw [List.getElem?_eq_getElem (by omega)] at h2
  injection h2 with h2
  rw [h2] at hc
  exact ⟨ad, e, hc⟩
theorem bw_mono {l : List UInt8} (hv : Vd l) {i k : Nat} (hik : i ≤ k) (hk : k ≤ (rv l).length) : bw l i ≤ bw l k ∧ bw l k ≤ l.length := by
  rw [rv_len] at hk
  obtain ⟨d, rfl⟩ : ∃ d, k = i + d := ⟨k - i, by omega⟩
  have := bw_add hv i d (by omega)
  exact ⟨by omega, (split_at _ l hv hk).1⟩
set_option maxHeartbeats 8000000 in
set_option maxRecDepth 100000 in
theorem xpart_any (s : ByteArray) (A : Option Addr) (a : Nat) (B : Option Addr) (b : Nat) (i k : Nat) (w : World) (h : Txt w s A a B b) (hik : i ≤ k) (hk : k ≤ (rv s.data.toList).length) :
    Calls Tryd.prog 71 #[txV s A a B b, .int .i64 i, .int .i64 k] w fun r w' => r = .returned (.string (s.extract (bw s.data.toList i) (bw s.data.toList k))) ∧ Below w.heap.size w w' := by
  have hn := h.runes_le
  have hsz := h.size
  obtain ⟨ad, rfl, x0⟩ := plc_cell h.z h.vd (k := i) (by omega)
  obtain ⟨ad', e0, x1⟩ := plc_cell h.z h.vd hk
  injection e0 with e0
  subst e0
  have hm := bw_mono h.vd hik hk
  have hpl := plc_len h.vd
  have hzb := h.zb
  rw [size_data] at hm
  generalize bw s.data.toList i = p at *
  generalize bw s.data.toList k = q at *
  unfold txV
  generalize (rv s.data.toList).length = L1 at *
  generalize (plc s.data.toList).length = L2 at *
  have hlt := World.block_lt_of_cell? w _ x0
  have hlt1 := World.block_lt_of_cell? w _ x1
  have hi0 : (0 : Int) ≤ i := by omega
  have hk0 : (0 : Int) ≤ k := by omega
  have hil : (i : Int) < L2 := by omega
  have hkl : (k : Int) < L2 := by omega
  have hbz : (L2 : Int) ≤ b := by omega
  have hp0 : (0 : Int) ≤ p := by omega
  have hpq : (p : Int) ≤ q := by omega
  have hqs : (q : Int) ≤ s.size := by omega
  clear h hm hpl hzb
  go_enter Tryd.func71, Tryd.ntmps71
  go_wp2_with fail
  go_quiet (fail)
  go_wp2_with fail
  go_ret
  exact ⟨ret_str (by first | rfl | simp), below_drewN ((Below.refl _ _).alloc (Nat.le_refl _) _) _⟩

set_option maxHeartbeats 8000000 in
set_option maxRecDepth 100000 in
theorem xnumber_any (s : ByteArray) (w : World) (hs : s.size ≤ 8192) :
    Calls Tryd.prog 72 #[.string s] w fun r w' => r = .returned (.tuple #[.int .i64 (numS s).1, .bool (numS s).2]) ∧ w = w' := by
  have hsz : (s.size : Int) ≤ 8192 := by omega
  have hat : ∀ j (h : j < s.size), s.data.toList[j]'(by rw [size_data]; exact h) = s[j] := fun j h => rfl
  by_cases h0 : s.size = 0
  · have HX : Hid (numS s = (0, false)) := Lib.hid (if_pos (.inl h0))
    have h0b : ((s.size : Int) == 0) = true := beq_iff_eq.2 (by omega)
    clear h0
    go_enter Tryd.func72, Tryd.ntmps72
    go_wp2_with fail
    go_ret2
    exact ⟨by rw [HX.out]; first | done | rfl, rfl⟩
  have h0b : ((s.size : Int) == 0) = false := beqf (by omega)
  have hp : 0 < s.size := by omega
  have hpz : (0 : Int) < s.size := by omega
  obtain ⟨c0, hc0⟩ : ∃ c, s[0] = c := ⟨_, rfl⟩
  have hg0 : s.data.toList.getD 0 0 = c0 := by rw [← head_getD s hp, hc0]
  by_cases h48 : 1 < s.size ∧ c0 = 48
  · have HX : Hid (numS s = (0, false)) := Lib.hid (if_pos (.inr ⟨h48.1, by rw [hg0]; exact h48.2⟩))
    obtain ⟨h1, rfl⟩ := h48
    have h1z : (1 : Int) < s.size := by omega
    clear h0 h1 hg0
    go_enter Tryd.func72, Tryd.ntmps72
    go_wp2_with fail
    go_ret2
    exact ⟨by rw [HX.out]; first | done | rfl, rfl⟩
  obtain ⟨ANS, hANS⟩ : ∃ x, numX s.data.toList 0 = x := ⟨_, rfl⟩
  have HX : Hid (numS s = ANS) := Lib.hid (by
    unfold numS
    rw [if_neg (by rw [hg0]; rintro (e | e); exact h0 e; exact h48 e), hANS])
  have HANS := Lib.hid hANS
  have hor : (s.size : Int) ≤ 1 ∨ (1 : Int) < s.size ∧ ((c0.toNat : Int) == 48) = false := by
    rcases Nat.lt_or_ge 1 s.size with h | h
    · refine .inr ⟨by omega, ?_⟩
      rw [beq_eq_false_iff_ne]
      intro e
      exact h48 ⟨h, UInt8.toNat_inj.1 (by simpa using (by omega : c0.toNat = 48))⟩
    · exact .inl (by omega)
  have HAT := Lib.hid hat
  clear h0 h48 hg0 hANS hat
  rcases hor with hor | ⟨hor, hor2⟩
  all_goals
    go_enter Tryd.func72, Tryd.ntmps72
    go_wp2_with fail
    go_loopg [4, 5] (s.size + 1) (fun k s4 s5 w' => ∃ (j : Nat) (v : Int), s5 = .int .i64 j ∧ s4 = .int .i64 v ∧ j ≤ s.size ∧ s.size - j < k ∧ 0 ≤ v ∧ v ≤ 9223372036854775807 ∧ numX (s.data.toList.drop j) v = ANS ∧ w' = w)
    case atStart => exact ⟨0, 0, rfl, rfl, by omega, by omega, by decide, by decide, HANS.out, rfl⟩
    case round =>
      obtain ⟨j, v, rfl, rfl, hj, hjk, hv0, hv1, hans, rfl⟩ := hrel
      obtain ⟨gk, rfl⟩ : ∃ k, gk = k + 1 := ⟨gk - 1, by omega⟩
      have hj0 : (0 : Int) ≤ j := by omega
      by_cases hlt : j < s.size
      · have hltz : (j : Int) < s.size := by omega
        obtain ⟨c, hc⟩ : ∃ c, s[j] = c := ⟨_, rfl⟩
        have hcl := c.toNat_lt
        rw [drop_cons s.data.toList j (by rw [size_data]; exact hlt), HAT.out j hlt, hc, numX] at hans
        by_cases hd : (c.toNat : Int) < 48 ∨ 57 < (c.toNat : Int)
        · rw [if_pos hd] at hans
          have HN : Hid (numS s = (0, false)) := Lib.hid (by rw [HX.out, ← hans])
          have hd2 : (c.toNat : Int) < 48 ∨ (48 ≤ (c.toNat : Int) ∧ 57 < (c.toNat : Int)) := by omega
          clear hans hd
          rcases hd2 with hd2 | ⟨hd2, hd3⟩
          all_goals
            go_wp2_with fail
            go_ret2
            exact ⟨by rw [HN.out]; first | done | rfl, rfl⟩
        · rw [if_neg hd] at hans
          have hd2 : 48 ≤ (c.toNat : Int) := by omega
          have hd3 : (c.toNat : Int) ≤ 57 := by omega
          obtain ⟨d, hdd⟩ : ∃ d, (c.toNat : Int) - 48 = d := ⟨_, rfl⟩
          have hdb : 0 ≤ d ∧ d ≤ 9 := by omega
          obtain ⟨t, ht⟩ : ∃ t, (9223372036854775807 - d).tdiv 10 = t := ⟨_, rfl⟩
          have ht2 : t = (9223372036854775807 - d) / 10 := by rw [← ht, Int.tdiv_eq_ediv_of_nonneg (by omega)]
          have htb : 0 ≤ t := by omega
          have htb2 : t ≤ 922337203685477580 := by omega
          rw [hdd, ht] at hans
          by_cases ho : t < v
          · rw [if_pos ho] at hans
            have HN : Hid (numS s = (0, false)) := Lib.hid (by rw [HX.out, ← hans])
            clear hans hd ht2
            go_wp2_with fail
            go_ret2
            exact ⟨by rw [HN.out]; first | done | rfl, rfl⟩
          · rw [if_neg ho] at hans
            have ho2 : v ≤ t := by omega
            have HN := Lib.hid hans
            have hfit : 10 * v + d ≤ 9223372036854775807 := by omega
            clear hans hd ho ht2
            go_wp2_with fail
            go_roundg gk
            case measure => omega
            case rel => exact ⟨j + 1, 10 * v + d, by go_num, by go_num, by omega, by omega, by omega, hfit, HN.out, rfl⟩
      · obtain rfl : j = s.size := by omega
        rw [show s.data.toList.drop s.size = [] from List.drop_of_length_le (by rw [size_data]; exact Nat.le_refl _), numX] at hans
        have HN : Hid (numS s = (v, true)) := Lib.hid (by rw [HX.out, ← hans])
        clear hans
        have hnl : ¬ ((s.size : Int) < s.size) := by omega
        go_wp2_with fail
        go_ret2
        exact ⟨by rw [HN.out]; first | done | rfl, rfl⟩
end Go.Proofs.YtgaiheojlmebaaaDoor
