/- A walk: the cutter passes over blanks and remarks. -/
import Derived.Test.YtgaiheojlmebaaaDoorC1
import Derived.Test.YtgaiheojlmebaaaDoorCutP
import Derived.Deep.LoopGhost
namespace Go.Proofs.YtgaiheojlmebaaaDoor
open Go Go.RowKit Go.Lib

theorem six (c : Int) : c = 1 ∨ c = 6 ∧ (c == 1) = false ∨ (c == 1) = false ∧ (c == 6) = false ∧ c ≠ 1 ∧ c ≠ 6 := by
  simp only [beq_eq_false_iff_ne, ne_eq]
  omega
theorem head_cons {s : ByteArray} (h : 0 < s.size) : s.data.toList = s[0] :: s.data.toList.tail := by
  have h' : 0 < s.data.toList.length := by rw [size_data]; exact h
  have e := head_getD s h
  cases hl : s.data.toList with
  | nil => rw [hl] at h'; simp at h'
  | cons a t => rw [hl] at e; rw [e]; rfl
theorem nonempty_ne {s : ByteArray} (h : 0 < s.size) : (!s.toList.isEmpty) = true := by rw [ne_empty]; exact decide_eq_true (by omega)
theorem nonempty_eq {s : ByteArray} (h : ¬ 0 < s.size) : (!s.toList.isEmpty) = false := by rw [ne_empty]; exact decide_eq_false (by omega)
theorem cls6 {r : Int} : cls r = 6 ↔ r = 35 := by
  unfold cls
  repeat' split
  all_goals omega
theorem hash_at {l t : List UInt8} {c : UInt8} (h : l = c :: t) (hc : c.toNat = 35) : indexByte l 10 ≠ 0 := by
  subst h
  have : (c == 10) = false := by rw [beq_eq_false_iff_ne]; rintro rfl; simp at hc
  have h2 := indexByte_le t 10
  simp only [indexByte, this]
  repeat' split
  all_goals first | omega | (simp_all; done) | (simp_all; omega)

set_option maxHeartbeats 2000000 in
set_option maxRecDepth 100000 in
theorem blanks_any (g : Nat) (rest : ByteArray) (at_ : Int) (v : Value) (w : World) (hb : CutB w g rest at_ v) (_hs : rest.size ≤ 100000) (ha0 : 0 ≤ at_) (ha : at_ + rest.size ≤ 100000) (ANS : List UInt8 × Int) (hA : skipF (rest.size + 1) rest.data.toList at_ = ANS) :
    Calls Tryd.prog 37 #[.pointer (some ⟨g, 0, none⟩)] w fun e w' =>
      e = .returned (.tuple #[]) ∧ ∃ r a, CutB w' g r a v ∧ Same [g] w w' ∧ r.data.toList = ANS.1 ∧ a = ANS.2 ∧ r.size ≤ rest.size ∧ at_ ≤ a ∧ a + r.size ≤ at_ + rest.size := by
  go_enter Tryd.func37, Tryd.ntmps37
  go_wp2
  go_loopg [2] (rest.size + 1) (fun k _ w' => ∃ (r : ByteArray) (a : Int), CutB w' g r a v ∧ Same [g] w w' ∧ r.size < k ∧ skipF k r.data.toList a = ANS ∧ r.size ≤ rest.size ∧ at_ ≤ a ∧ a + r.size ≤ at_ + rest.size)
  case atStart => exact ⟨rest, at_, hb, Same.refl _ _, by omega, hA, by omega, by omega, by omega⟩
  case round =>
    obtain ⟨r, a, hb', hS, hk, hr, hl1, hl2, hl3⟩ := hrel
    have HB := Lib.hid hb'
    have HS := Lib.hid hS
    have HR := Lib.hid hr
    have hc0 : wr.cell? ⟨g, 0, none⟩ = some (.string r) := (blk_cell hb' 0).trans rfl
    obtain ⟨gk, rfl⟩ : ∃ k, gk = k + 1 := ⟨gk - 1, by omega⟩
    clear hb hb' hS hr hA
    by_cases hp : 0 < r.size
    · have hne := nonempty_ne hp
      have hz : (0 : Int) < r.size := by omega
      obtain ⟨c, hc⟩ : ∃ c, r[0] = c := ⟨_, rfl⟩
      have hcons := head_cons hp
      rw [hc] at hcons
      have HCONS := Lib.hid hcons
      obtain ⟨k, hk'⟩ : ∃ k, cls (c.toNat : Int) = k := ⟨_, rfl⟩
      have hlt := c.toNat_lt
      have HC : Hid (∀ W, Calls Tryd.prog 62 #[.int .i32 c.toNat] W fun e w' => e = .returned (.int .i64 k) ∧ W = w') := fun W => by rw [← hk']; exact class_any _ W (by omega) (by omega)
      have HN : Hid (skipN r.data.toList = if k = 1 then 1 else if k = 6 then (if indexByte r.data.toList 10 < 0 then r.size else (indexByte r.data.toList 10).toNat) else 0) := by
        rw [hcons, ← hk', ← size_data r, hcons]; exact rfl
      have H6 : Hid (k = 6 → c.toNat = 35) := fun e => by have := cls6.1 (hk'.trans e); omega
      clear hk' hcons
      rcases six k with rfl | ⟨rfl, h61⟩ | ⟨h1, h6, h1', h6'⟩
      · have HN' : Hid (skipN r.data.toList = 1) := by rw [HN.out]; rfl
        go_wp2_with (first | (go_at_call 62; refine (HC.out _).mono ?_; rintro e w' ⟨rfl, rfl⟩) | (go_at_call 39; refine (pass_any g r a v _ _ HB.out (by omega) (by omega) (by omega) (by omega) (by omega)).mono ?_; rintro e w3 ⟨rfl, hb3, hs3⟩))
        go_roundg gk
        case measure => omega
        case rel =>
          have h1 := HR.out
          rw [skipF_step (by rw [HN'.out]; decide), HN'.out] at h1
          have h2 := runes_len (r.data.toList.take (Int.toNat 1))
          rw [List.length_take, size_data] at h2
          exact ⟨_, _, hb3, HS.out.then_ hs3, by rw [Lib.ext_size]; omega, by rw [ext_drop]; exact h1, by rw [Lib.ext_size]; omega, by omega, by rw [Lib.ext_size]; omega⟩
      · have H35 := Lib.hid (H6.out rfl)
        obtain ⟨x, hx⟩ : ∃ x, indexByte r.data.toList 10 = x := ⟨_, rfl⟩
        have hxb := indexByte_le r.data.toList 10
        rw [size_data, hx] at hxb
        have HIX : Hid (∀ W, Calls Tryd.prog 63 #[.string r, .int .u8 10] W fun e w' => e = .returned (.int .i64 x) ∧ W = w') := fun W => by
          have := Tryd.strings_IndexByte r 10 W
          refine this.mono ?_
          rintro e w' ⟨rfl, rfl⟩
          exact ⟨by rw [← hx]; rfl, rfl⟩
        have hx0 : x ≠ 0 := by
          rw [← hx]
          exact hash_at HCONS.out H35.out
        have HN' : Hid (skipN r.data.toList = if x < 0 then r.size else x.toNat) := by rw [HN.out, hx]; rfl
        clear hx
        rcases Int.lt_or_le x 0 with hneg | hpos
        · have HN2 : Hid (skipN r.data.toList = r.size) := by rw [HN'.out, if_pos hneg]; rfl
          go_wp2_with (first | (go_at_call 62; refine (HC.out _).mono ?_; rintro e w' ⟨rfl, rfl⟩) | (go_at_call 63; refine (HIX.out _).mono ?_; rintro e w' ⟨rfl, rfl⟩) | (go_at_call 39; refine (pass_any g r a v _ _ HB.out (by omega) (by omega) (by omega) (by omega) (by omega)).mono ?_; rintro e w3 ⟨rfl, hb3, hs3⟩))
          go_roundg gk
          case measure => omega
          case rel =>
            have h1 := HR.out
            rw [skipF_step (by rw [HN2.out]; omega), HN2.out] at h1
            have h2 := runes_len (r.data.toList.take (r.size : Int).toNat)
            rw [List.length_take, size_data] at h2
            refine ⟨_, _, hb3, HS.out.then_ hs3, by rw [Lib.ext_size]; omega, by rw [ext_drop]; exact h1, by rw [Lib.ext_size]; omega, by omega, by rw [Lib.ext_size]; omega⟩
        · have HN2 : Hid (skipN r.data.toList = x.toNat) := by rw [HN'.out, if_neg (by omega)]; rfl
          go_wp2_with (first | (go_at_call 62; refine (HC.out _).mono ?_; rintro e w' ⟨rfl, rfl⟩) | (go_at_call 63; refine (HIX.out _).mono ?_; rintro e w' ⟨rfl, rfl⟩) | (go_at_call 39; refine (pass_any g r a v _ _ HB.out (by omega) (by omega) (by omega) (by omega) (by omega)).mono ?_; rintro e w3 ⟨rfl, hb3, hs3⟩))
          go_roundg gk
          case measure => omega
          case rel =>
            have h1 := HR.out
            rw [skipF_step (by rw [HN2.out]; omega), HN2.out] at h1
            have h2 := runes_len (r.data.toList.take x.toNat)
            rw [List.length_take, size_data] at h2
            refine ⟨_, _, hb3, HS.out.then_ hs3, by rw [Lib.ext_size]; omega, by rw [ext_drop]; exact h1, by rw [Lib.ext_size]; omega, by omega, by rw [Lib.ext_size]; omega⟩
      · have HN' : Hid (skipN r.data.toList = 0) := by rw [HN.out, if_neg h1', if_neg h6']; rfl
        go_wp2_with (first | (go_at_call 62; refine (HC.out _).mono ?_; rintro e w' ⟨rfl, rfl⟩))
        refine bodyPost_ret (results_none rfl _ _ _) rfl ?_
        have h1 := HR.out
        rw [skipF_end HN'.out] at h1
        exact ⟨rfl, r, a, HB.out, HS.out, by rw [← h1], by rw [← h1], hl1, hl2, hl3⟩
    · have hne := nonempty_eq hp
      have HN' : Hid (skipN r.data.toList = 0) := by
        have : r.data.toList = [] := List.eq_nil_of_length_eq_zero (by rw [size_data]; omega)
        rw [this]; rfl
      go_wp2
      go_end0
      have h1 := HR.out
      rw [skipF_end HN'.out] at h1
      exact ⟨rfl, r, a, HB.out, HS.out, by rw [← h1], by rw [← h1], hl1, hl2, hl3⟩
end Go.Proofs.YtgaiheojlmebaaaDoor
