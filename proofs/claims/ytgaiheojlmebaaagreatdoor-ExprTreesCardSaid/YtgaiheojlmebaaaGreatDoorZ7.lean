/- Walks: the reference's Show. Walks: the reference's text, Print. -/
import Derived.Test.YtgaiheojlmebaaaGreatDoorZ5
import Derived.Test.YtgaiheojlmebaaaGreatDoorE7
/-! Walks: the reference's Show. -/
namespace Go.Proofs.YtgaiheojlmebaaaGreatDoor
open Go Go.RowKit Go.Lib Go.Sort

theorem digit_piece (d : Nat) (h : d < 10) : (⟨#[48, 49, 50, 51, 52, 53, 54, 55, 56, 57]⟩ : ByteArray).extract d (d + 1) = str [UInt8.ofNat (48 + d)] := by
  have : d = 0 ∨ d = 1 ∨ d = 2 ∨ d = 3 ∨ d = 4 ∨ d = 5 ∨ d = 6 ∨ d = 7 ∨ d = 8 ∨ d = 9 := by omega
  rcases this with rfl | rfl | rfl | rfl | rfl | rfl | rfl | rfl | rfl | rfl <;> rfl
theorem dec_big {m : Nat} (h : ¬ m < 10) : decDigits m = decDigits (m / 10) ++ [UInt8.ofNat (48 + m % 10)] := by rw [decDigits, dif_neg h]

set_option maxHeartbeats 4000000 in
set_option maxRecDepth 100000 in
theorem xshow_any (n : Nat) (w : World) (hn : (n : Int) ≤ 9223372036854775807) : Calls Tryz.prog 43 #[.int .i64 n] w fun r w' => r = .returned (.string (str (decDigits n))) ∧ w = w' := by
  have hn0 : (0 : Int) ≤ n := by omega
  have hlen : (decDigits n).length ≤ 21 := by
    have := itoa_length_le (n : Int) (by omega) hn
    unfold itoa at this
    rw [if_neg (by omega), Int.toNat_natCast] at this
    exact this
  obtain ⟨ANS, hANS⟩ : ∃ x, decDigits n = x := ⟨_, rfl⟩
  rw [hANS] at hlen ⊢
  have HANS := Lib.hid hANS
  obtain ⟨D, hD⟩ : ∃ D, (⟨#[48, 49, 50, 51, 52, 53, 54, 55, 56, 57]⟩ : ByteArray) = D := ⟨_, rfl⟩
  have hDs : (10 : Int) ≤ D.size := by rw [← hD]; decide
  have HDP : Hid (∀ d, d < 10 → D.extract d (d + 1) = str [UInt8.ofNat (48 + d)]) := Lib.hid (fun d h => by rw [← hD]; exact digit_piece d h)
  clear hANS
  go_enter Tryz.func43, Tryz.ntmps43
  go_wp2_with fail
  go_loopg [0, 4] (n + 1) (fun k s0 s4 w' => ∃ (m : Nat) (sfx : Bs), s0 = .int .i64 m ∧ s4 = .string (str sfx) ∧ (m : Int) ≤ 9223372036854775807 ∧ m < k ∧ decDigits m ++ sfx = ANS ∧ w' = w)
  case atStart => exact ⟨n, [], rfl, rfl, hn, by omega, by rw [HANS.out, List.append_nil], rfl⟩
  case round =>
    obtain ⟨m, sfx, rfl, rfl, hm, hmk, hans, rfl⟩ := hrel
    obtain ⟨gk, rfl⟩ : ∃ k, gk = k + 1 := ⟨gk - 1, by omega⟩
    have hm0 : (0 : Int) ≤ m := by omega
    obtain ⟨d, hd⟩ : ∃ d, m % 10 = d := ⟨_, rfl⟩
    have hd10 : d < 10 := by omega
    have hdz : (m : Int).tmod 10 = (d : Int) := by rw [← hd, Int.tmod_eq_emod_of_nonneg hm0]; omega
    obtain ⟨q, hq⟩ : ∃ q, m / 10 = q := ⟨_, rfl⟩
    have hqz : (m : Int).tdiv 10 = (q : Int) := by rw [← hq, Int.tdiv_eq_ediv_of_nonneg hm0]; omega
    have hq1 : (q : Int) ≤ 922337203685477580 := by omega
    have hq0 : (0 : Int) ≤ q := by omega
    have hd0 : (0 : Int) ≤ d := by omega
    have hd9 : (d : Int) ≤ 9 := by omega
    have hpc := HDP.out d hd10
    obtain ⟨j, hj⟩ : ∃ j, d + 1 = j := ⟨_, rfl⟩
    have hjz : (d : Int) + 1 = (j : Int) := by omega
    have hdj : (d : Int) ≤ j := by omega
    have hjs : (j : Int) ≤ D.size := by omega
    rw [hj] at hpc
    obtain ⟨P, hP⟩ : ∃ P, str [UInt8.ofNat (48 + d)] = P := ⟨_, rfl⟩
    have hPs : (P.size : Int) ≤ 1 := by rw [← hP, str_size]; simp
    have hsl : sfx.length ≤ 21 := by have := congrArg List.length hans; rw [List.length_append] at this; omega
    obtain ⟨S, hS⟩ : ∃ S, str sfx = S := ⟨_, rfl⟩
    have hSs : (S.size : Int) ≤ 21 := by rw [← hS, str_size]; omega
    rw [hP] at hpc
    rw [hS]
    have HC : Hid (P ++ S = str (UInt8.ofNat (48 + d) :: sfx)) := Lib.hid (by rw [← hP, ← hS, str_app]; rfl)
    have HA := Lib.hid hans
    have HD := Lib.hid (And.intro hd hq)
    clear hP hS hans hd hq hj
    by_cases h10 : m < 10
    · have hqq : q = 0 := by have := HD.out.2; omega
      have HE : Hid (UInt8.ofNat (48 + d) :: sfx = ANS) := Lib.hid (by
        have h := HA.out
        have hdm : d = m := by have := HD.out.1; omega
        rw [decDigits_one h10] at h
        rw [hdm]; exact h)
      subst hqq
      clear h10
      go_wp2_with fail
      go_ret
      exact ⟨ret_str (by rw [HC.out, HE.out]), rfl⟩
    · have hqq : ((q : Int) == 0) = false := beqf (by have := HD.out.2; omega)
      have HE : Hid (decDigits q ++ (UInt8.ofNat (48 + d) :: sfx) = ANS) := Lib.hid (by
        have h := HA.out
        rw [dec_big h10, HD.out.1, HD.out.2, List.append_assoc] at h
        exact h)
      have hqm : q < m := by have := HD.out.2; omega
      clear h10
      go_wp2_with fail
      go_roundg gk
      case measure => omega
      case rel => exact ⟨q, UInt8.ofNat (48 + d) :: sfx, rfl, by rw [HC.out], by omega, by omega, HE.out, rfl⟩
end Go.Proofs.YtgaiheojlmebaaaGreatDoor
/-! Walks: the reference's text, Print. -/
namespace Go.Proofs.YtgaiheojlmebaaaGreatDoor
open Go Go.RowKit Go.Lib Go.Sort

/-- The texts of a node's parts from the i-th on. -/
def ptX (o : Int) : Nat → List Ex → List Bs
  | _, [] => []
  | i, k :: ks => brk (eWrapped o k.op i) (eText k) :: ptX o (i + 1) ks
theorem ptX_cons (o : Int) (i : Nat) (k : Ex) (ks : List Ex) : ptX o i (k :: ks) = brk (eWrapped o k.op i) (eText k) :: ptX o (i + 1) ks := by rw [ptX]

theorem toks_kids : ∀ (ks : List Ex) (op i n most : Int), 0 ≤ eToks op ks i n most → ∀ k, k ∈ ks → ∃ m, 0 ≤ eTok k m
  | [], _, _, _, _, _, _, h => by simp at h
  | x :: xs, op, i, n, most, h, k, hk => by
    rw [eToks_cons] at h
    by_cases h1 : eTok x (most - n) < 0
    · rw [if_pos h1] at h; omega
    · rw [if_neg h1] at h
      rcases List.mem_cons.1 hk with rfl | hk
      · exact ⟨most - n, by omega⟩
      · by_cases h2 : most < n + eTok x (most - n) + (if eWrapped op x.op i = true then 2 else 0)
        · rw [if_pos h2] at h; omega
        · rw [if_neg h2] at h
          exact toks_kids xs _ _ _ _ h k hk
theorem tok_kids {o n : Int} {nm : ByteArray} {ks : List Ex} {most : Int} (ho : ¬ (o = 0 ∨ o = 1)) (h : 0 ≤ eTok (.mk o n nm ks) most) (k : Ex) (hk : k ∈ ks) : ∃ m, 0 ≤ eTok k m := by
  rw [eTok, if_neg ho] at h
  split at h
  · omega
  · exact toks_kids _ _ _ _ _ h k hk
theorem tok_num {n : Int} {nm : ByteArray} {ks : List Ex} {most : Int} (h : 0 ≤ eTok (.mk 0 n nm ks) most) : 0 ≤ n := by
  rw [eTok, if_pos (.inl rfl)] at h
  split at h
  · omega
  · omega

theorem text_eq_one {o n : Int} {nm : ByteArray} {a : Ex} (ho : 2 ≤ o) : eText (.mk o n nm [a]) = (eSign o).data.toList ++ brk (eWrapped o a.op 0) (eText a) := by
  rw [eText.eq_def]; simp only
  rw [if_neg (by omega), if_neg (by omega)]
theorem text_eq_two {o n : Int} {nm : ByteArray} {a b : Ex} (ho : 2 ≤ o) : eText (.mk o n nm [a, b]) = brk (eWrapped o a.op 0) (eText a) ++ [32] ++ (eSign o).data.toList ++ [32] ++ brk (eWrapped o b.op 1) (eText b) := by
  rw [eText.eq_def]; simp only
  rw [if_neg (by omega), if_neg (by omega)]
theorem len_two {α : Type} {l : List α} (h : l.length = 2) : ∃ a b, l = [a, b] := by
  match l, h with
  | [a, b], _ => exact ⟨a, b, rfl⟩
theorem s_cell {w : World} {g : Nat} {l : List Bs} (h : sK.Row [] w (some ⟨g, 0, none⟩) l) (i : Nat) (hi : i < l.length) : w.cell? ⟨g, i, none⟩ = some (encStr l[i]) := by
  obtain ⟨ad, e, hc⟩ := s_at h i hi
  injection e with e
  subst e
  have hadd : (⟨g, 0, none⟩ : Addr).add i = ⟨g, i, none⟩ := by
    unfold Addr.add
    split <;> simp_all
  rwa [hadd] at hc

set_option maxHeartbeats 4000000 in
set_option maxRecDepth 100000 in
theorem xtext_leaf (o n : Int) (nm : ByteArray) (A : Option Addr) (c : Nat) (w : World) (ho : o = 0 ∨ o = 1) (hn : o = 0 → 0 ≤ n) (hf : n ≤ 9223372036854775807) :
    Calls Tryz.prog 28 #[.agg #[.int .i64 o, .int .i64 n, .string nm, .slice A 0 c]] w fun r w' => r = .returned (.string (str (eText (.mk o n nm [])))) ∧ Below w.heap.size w w' := by
  rcases ho with rfl | rfl
  · obtain ⟨m, rfl⟩ := Int.eq_ofNat_of_zero_le (hn rfl)
    have HX : Hid (eText (.mk 0 m nm []) = decDigits m) := Lib.hid (by
      rw [eText.eq_def]
      show itoa m = _
      unfold itoa
      rw [if_neg (by omega), Int.toNat_natCast])
    have HS := Lib.hid (fun W => xshow_any m W hf)
    go_enter Tryz.func28, Tryz.ntmps28
    go_wp2_with (go_at_call 43; refine (HS.out _).mono ?_; rintro e w2 ⟨rfl, rfl⟩)
    go_ret
    exact ⟨ret_str (by rw [HX.out]), (Below.refl _ _).alloc (Nat.le_refl _) _⟩
  · have HX : Hid (eText (.mk 1 n nm []) = nm.data.toList) := by rw [eText.eq_def]; exact rfl
    go_enter Tryz.func28, Tryz.ntmps28
    go_wp2_with fail
    go_ret
    exact ⟨ret_str (by rw [HX.out, str_data]), (Below.refl _ _).alloc (Nat.le_refl _) _⟩

set_option maxHeartbeats 16000000 in
set_option maxRecDepth 100000 in
theorem xtext_node (o : Nat) (n : Int) (nm : ByteArray) (ks : List Ex) (A : Option Addr) (c : Nat) (w : World) (h2 : 2 ≤ o) (h16 : o < 17) (hkn : ks.length = eParts o) (hr : exK.Row [] w A ks) (hlc : ks.length ≤ c)
    (hl : ∀ (j : Nat) (hj : j < ks.length), (eText ks[j]).length ≤ 18014398509481984)
    (ih : ∀ (j : Nat) (hj : j < ks.length) (A' : Option Addr) (c' : Nat) (W : World), exK.Row [] W A' ks[j].kids → ks[j].kids.length ≤ c' →
      Calls Tryz.prog 28 #[exV ks[j] A' c'] W fun r w' => r = .returned (.string (str (eText ks[j]))) ∧ Below W.heap.size W w') :
    Calls Tryz.prog 28 #[.agg #[.int .i64 o, .int .i64 n, .string nm, .slice A ks.length c]] w fun r w' => r = .returned (.string (str (eText (.mk o n nm ks)))) ∧ Below w.heap.size w w' := by
  have HIH := Lib.hid ih
  have HL := Lib.hid hl
  have HKN := Lib.hid hkn
  have hk2 : ks.length ≤ 2 := by rw [hkn]; unfold eParts; split <;> omega
  have hk1 : 1 ≤ ks.length := by rw [hkn]; unfold eParts; split <;> omega
  have hmz : (ks.length : Int) ≤ 9223372036854775807 := by omega
  have hlcz : (ks.length : Int) ≤ c := by omega
  have o0 : ((o : Int) == 0) = false := beqf (by omega)
  have o1 : ((o : Int) == 1) = false := beqf (by omega)
  obtain ⟨ANS, hANS⟩ : ∃ x, ptX o 0 ks = x := ⟨_, rfl⟩
  have HANS := Lib.hid hANS
  obtain ⟨w0, hw0⟩ : ∃ w', w.alloc (.cells #[.int .i64 o, .int .i64 n, .string nm, .slice A ks.length c] 24 (0, 0)) = w' := ⟨_, rfl⟩
  have hb0 : Below w.heap.size w w0 := hw0 ▸ (Below.refl _ _).alloc (Nat.le_refl _) _
  have hq0 : w0.heap[w.heap.size]? = some (.cells #[.int .i64 o, .int .i64 n, .string nm, .slice A ks.length c] 24 (0, 0)) := hw0 ▸ heap_alloc_new _ _
  obtain ⟨K, hK⟩ : ∃ K, w.heap.size = K := ⟨_, rfl⟩
  have HB0 := Lib.hid hb0
  have HQ0 : Hid (w0.heap[K]? = some (.cells #[.int .i64 o, .int .i64 n, .string nm, .slice A ks.length c] 24 (0, 0))) := Lib.hid (by rw [← hK]; exact hq0)
  have HR := Lib.hid (hr.keep (Same.of_below (M := []) hb0))
  have HW0 := Lib.hid hw0
  obtain ⟨⟨z0, z1, z2, z3⟩, _⟩ := blk4' HQ0.out
  have hlK := blk_lt HQ0.out
  obtain ⟨i0, hi0, hz0, hz1, hz2⟩ := info_parts info_str
  clear ih hl hr hANS hb0 hq0 hw0 hkn
  go_enter Tryz.func28, Tryz.ntmps28
  go_wp2_with fail
  rw [HW0.out]
  clear hK
  go_loopg [3, 4] (ks.length + 1) (fun k s3 s4 w' => ∃ (j : Nat) (out : List Bs) (B : Option Addr) (b : Nat), s4 = .int .i64 j ∧ s3 = .slice B out.length b ∧ j ≤ ks.length ∧ ks.length - j < k ∧ OwnS w' w0.heap.size (.slice B out.length b) out ∧ Hid (out.length = j) ∧ out ++ ptX o j (ks.drop j) = ANS ∧ Below w0.heap.size w0 w')
  case atStart => exact ⟨0, [], none, 0, rfl, rfl, by omega, by omega, ⟨rfl, .inl ⟨rfl, rfl⟩⟩, Lib.hid rfl, HANS.out, Below.refl _ _⟩
  case round =>
    obtain ⟨j, out, B, b, rfl, rfl, hj, hjk, hown, HOL, hans, hbl⟩ := hrel
    obtain ⟨gk, rfl⟩ : ∃ k, gk = k + 1 := ⟨gk - 1, by omega⟩
    have HBL := Lib.hid hbl
    have HO := Lib.hid hown
    have hj0 : (0 : Int) ≤ j := by omega
    have hol : out.length ≤ 2 := by rw [HOL.out]; omega
    have hq := (hbl.block K (blk_lt HQ0.out)).trans HQ0.out
    clear z0 z1 z2 z3 hlK
    obtain ⟨⟨z0, z1, z2, z3⟩, _⟩ := blk4' hq
    have hlK := blk_lt hq
    have HRr := Lib.hid (HR.out.keep (Same.of_below (M := []) hbl))
    clear hq hown hbl
    by_cases hlt : j < ks.length
    · have hltz : (j : Int) < ks.length := by omega
      obtain ⟨ad, rfl⟩ := row_some HRr.out (by omega)
      obtain ⟨A', c', x0, x1, x2, x3, hlc', hrow', _⟩ := ex_some HRr.out j hlt
      have hadlt := World.block_lt_of_cell? wr _ x0
      rw [drop_cons ks j hlt, ptX_cons] at hans
      have HKID := Lib.hid (HIH.out j hlt A' c' wr hrow' hlc')
      have HWR := Lib.hid (fun W hr => xwrapped_nat (.mk o n nm ks) (some ad) c j W hr hlt hlc)
      have hlj := HL.out j hlt
      obtain ⟨t, ht⟩ : ∃ t, eText ks[j] = t := ⟨_, rfl⟩
      obtain ⟨bw, hbw⟩ : ∃ b, eWrapped o ks[j].op j = b := ⟨_, rfl⟩
      have hwk : eWrapped (Ex.mk o n nm ks).op (Ex.mk o n nm ks).kids[j].op j = bw := hbw
      rw [hwk] at HWR
      rw [ht] at HKID hans hlj
      rw [hbw] at hans
      have HN := Lib.hid hans
      obtain ⟨s, hs⟩ : ∃ s, str t = s := ⟨_, rfl⟩
      have hsz : (s.size : Int) ≤ 18014398509481984 := by rw [← hs, str_size]; omega
      rw [hs] at HKID
      have HS := Lib.hid hs
      clear hans hrow' ht hbw hwk hs hlj
      go_wp2_with fail
      refine HKID.out.mono ?_
      rintro r w3 ⟨rfl, hb3⟩
      have HB3 := Lib.hid (HBL.out.trans (hb3.mono HBL.out.size))
      have HO3 := Lib.hid (own_below HO.out hb3)
      clear hb3 z0 z1 z2 z3 hlK x0 x1 x2 x3 hadlt
      have hq := (HB3.out.block K (blk_lt HQ0.out)).trans HQ0.out
      obtain ⟨⟨z0, z1, z2, z3⟩, _⟩ := blk4' hq
      have hlK := blk_lt hq
      clear hq
      go_wp2_with fail
      refine (HWR.out _ (HR.out.keep (Same.of_below (M := []) HB3.out))).mono ?_
      rintro r w4 ⟨rfl, hb4⟩
      have HB4 := Lib.hid (HB3.out.trans (hb4.mono HB3.out.size))
      have HO4 := Lib.hid (own_below HO3.out hb4)
      have hsz4 := HB4.out.size
      clear hb4 z0 z1 z2 z3 hlK
      cases bw
      · have HE : Hid (encStr (brk false t) = .string s) := Lib.hid (by rw [← HS.out]; rfl)
        go_wp2_with (at_builtin; refine wpList_append_lies _ (by rfl) _ _ _ (by rfl) w0.heap.size 9 i0 _ 1 16 Tryz.underlying28 hi0 hz0 hz1 hz2 rfl (by omega) (.slice B out.length b) out.length (out.map encStr) (by rfl) (HO4.out.alloc _) ⟨w4.heap.size, 0, none⟩ 1 1 [.string s] (by rfl) (by rfl) (World.news_of_block (cs := #[.string s]) (t := 9) (fr := (0, 0)) (heap_alloc_new w4 _)) (by simp [Value.oneCell']) (by omega) (by unfold maxLen; omega) (by omega) (by simp; omega) (w4.heap.size + 1) (by simp) ?_; intro g5 cap5 v5 hown5 hgrow5 hat5 hlt5; refine Hid.out ?_)
        refine Lib.hid ?_
        have hS5 : Same [] w0 v5 := ((Same.of_below (M := []) HB4.out).alloc _).grown hgrow5 (fun k hk => .inr (own_block HO4.out k hk).1)
        have HV5 := Lib.hid hS5.below
        have HO5 : Hid (OwnS v5 w0.heap.size (.slice (some ⟨g5, 0, none⟩) (out ++ [brk false t]).length cap5) (out ++ [brk false t])) := Lib.hid (by
          unfold OwnS
          rw [List.map_append, List.length_append, List.map_cons, List.map_nil, HE.out]
          exact hown5)
        clear hS5 hown5 hgrow5 hat5 hlt5
        go_wp2_with fail
        go_roundg gk
        case measure => omega
        case rel => exact ⟨j + 1, out ++ [brk false t], some ⟨g5, 0, none⟩, cap5, by go_num, by simp, by omega, by omega, HO5.out, Lib.hid (by rw [List.length_append, HOL.out]; rfl), by rw [List.append_assoc]; exact HN.out, HV5.out⟩
      · have HE : Hid (encStr (brk true t) = .string (⟨#[40]⟩ ++ s ++ ⟨#[41]⟩)) := Lib.hid (by
          have e1 : (⟨#[40]⟩ : ByteArray) = str [40] := rfl
          have e2 : (⟨#[41]⟩ : ByteArray) = str [41] := rfl
          rw [← HS.out, e1, e2, str_app, str_app]; rfl)
        go_wp2_with (at_builtin; refine wpList_append_lies _ (by rfl) _ _ _ (by rfl) w0.heap.size 9 i0 _ 1 16 Tryz.underlying28 hi0 hz0 hz1 hz2 rfl (by omega) (.slice B out.length b) out.length (out.map encStr) (by rfl) (HO4.out.alloc _) ⟨w4.heap.size, 0, none⟩ 1 1 [.string (⟨#[40]⟩ ++ s ++ ⟨#[41]⟩)] (by rfl) (by rfl) (World.news_of_block (cs := #[.string (⟨#[40]⟩ ++ s ++ ⟨#[41]⟩)]) (t := 9) (fr := (0, 0)) (heap_alloc_new w4 _)) (by simp [Value.oneCell']) (by omega) (by unfold maxLen; omega) (by omega) (by simp; omega) (w4.heap.size + 1) (by simp) ?_; intro g5 cap5 v5 hown5 hgrow5 hat5 hlt5; refine Hid.out ?_)
        refine Lib.hid ?_
        have hS5 : Same [] w0 v5 := ((Same.of_below (M := []) HB4.out).alloc _).grown hgrow5 (fun k hk => .inr (own_block HO4.out k hk).1)
        have HV5 := Lib.hid hS5.below
        have HO5 : Hid (OwnS v5 w0.heap.size (.slice (some ⟨g5, 0, none⟩) (out ++ [brk true t]).length cap5) (out ++ [brk true t])) := Lib.hid (by
          unfold OwnS
          rw [List.map_append, List.length_append, List.map_cons, List.map_nil, HE.out]
          exact hown5)
        clear hS5 hown5 hgrow5 hat5 hlt5
        go_wp2_with fail
        go_roundg gk
        case measure => omega
        case rel => exact ⟨j + 1, out ++ [brk true t], some ⟨g5, 0, none⟩, cap5, by go_num, by simp, by omega, by omega, HO5.out, Lib.hid (by rw [List.length_append, HOL.out]; rfl), by rw [List.append_assoc]; exact HN.out, HV5.out⟩
    · have hge : (ks.length : Int) ≤ j := by omega
      rw [List.drop_of_length_le (by omega), ptX, List.append_nil] at hans
      have hol1 : 1 ≤ out.length := by rw [HOL.out]; omega
      have HLO : Hid (out.length = eParts o) := Lib.hid (by rw [HOL.out, ← HKN.out]; omega)
      obtain ⟨_, hrow⟩ := own_sRow HO.out
      rcases HO.out.2 with ⟨_, h0⟩ | ⟨g, cap, cur, hv, _, _, hcl, _⟩
      · omega
      · injection hv with e1 e2 e3
        subst e1 e3
        clear e2
        have HROW := Lib.hid hrow
        have HAN := Lib.hid hans
        have HSG : Hid (∀ W, Below wr.heap.size wr W → Calls Tryz.prog 44 #[.int .i64 o] W fun e w' => e = .returned (.string (eSign o)) ∧ Below wr.heap.size wr w') := Lib.hid (fun W hW => (xsign_any o h2 h16 W).mono (by
          rintro r w' ⟨rfl, hb⟩
          exact ⟨rfl, hW.trans (hb.mono hW.size)⟩))
        have hsg := sign_len o
        obtain ⟨s2, hs2⟩ : ∃ s, eSign o = s := ⟨_, rfl⟩
        have hz2' : (s2.size : Int) ≤ 2 := by rw [← hs2, ← size_data]; omega
        have HS2 := Lib.hid hs2
        rw [hs2] at HSG
        have hLK := (HBL.out.block K (blk_lt HQ0.out)).trans HQ0.out
        have HLK := Lib.hid hLK
        clear hs2 hsg hrow hans hLK
        have h2i : (2 : Int) ≤ o := by omega
        by_cases h23 : (o : Int) = 2 ∨ (o : Int) = 3
        · have hol2 : out.length = 1 := by rw [HLO.out]; exact if_pos h23
          have hkl : ks.length = 1 := by rw [HKN.out]; exact if_pos h23
          obtain ⟨p, rfl⟩ := List.length_eq_one_iff.1 hol2
          obtain ⟨a, rfl⟩ := List.length_eq_one_iff.1 hkl
          have hp : brk (eWrapped o a.op 0) (eText a) = p := by
            have h := HAN.out.trans HANS.out.symm
            rw [ptX_cons] at h
            injection h with h
            exact h.symm
          have hla := HL.out 0 (by simp)
          obtain ⟨s1, hs1⟩ : ∃ s, str p = s := ⟨_, rfl⟩
          have hz1' : (s1.size : Int) ≤ 18014398509481999 := by
            rw [← hs1, str_size, ← hp, brk_len]
            have : (eText a).length ≤ 18014398509481984 := hla
            split <;> omega
          have HF : Hid (str (eText (.mk o n nm [a])) = s2 ++ s1) := Lib.hid (by rw [text_eq_one h2i, hp, ← str_app, str_data, HS2.out, hs1])
          have SK : ∀ W, Below wr.heap.size wr W → W.cell? ⟨K, 0, none⟩ = some (.int .i64 o) ∧ W.cell? ⟨K, 1, none⟩ = some (.int .i64 n) ∧ W.cell? ⟨K, 2, none⟩ = some (.string nm) ∧ W.cell? ⟨K, 3, none⟩ = some (.slice A 1 c) ∧ W.cell? ⟨g, 0, none⟩ = some (.string s1) ∧ Hid (Below wr.heap.size wr W) := fun W hW => by
            have hb := (hW.block _ (blk_lt HLK.out)).trans HLK.out
            have hc := s_cell (HROW.out.keep (Same.of_below (M := []) hW)) 0 (by simp)
            exact ⟨(blk_cell hb 0).trans rfl, (blk_cell hb 1).trans rfl, (blk_cell hb 2).trans rfl, (blk_cell hb 3).trans rfl, by rw [← hs1]; exact hc, hW⟩
          have HSK := Lib.hid SK
          have hcat : ∀ W, (Op.stringOp .add s2 s1).run Tryz.prog W = .ok (.string (s2 ++ s1)) W := fun W => run_string_add_sum (w := W) s2 s1 (by omega)
          clear hol2 hkl hp hla hs1 SK h23 h2i
          go_wp2_with fail
          have HBr := Lib.hid ((Below.refl wr.heap.size wr).drew)
          obtain ⟨i0, i1, i2, i3, i4, i5⟩ := HSK.out _ HBr.out
          go_region_held3 (fun W => W.cell? ⟨K, 0, none⟩ = some (.int .i64 o) ∧ W.cell? ⟨K, 1, none⟩ = some (.int .i64 n) ∧ W.cell? ⟨K, 2, none⟩ = some (.string nm) ∧ W.cell? ⟨K, 3, none⟩ = some (.slice A 1 c) ∧ W.cell? ⟨g, 0, none⟩ = some (.string s1) ∧ Hid (Below wr.heap.size wr W))
            (first | exact HSK.out _ hb | exact HSK.out _ HBr.out | go_keep)
            (first
              | (go_at_call 44; refine (HSG.out _ ?_).mono ?_; (first | exact HBr.out | assumption); rintro e w' ⟨rfl, hb⟩))
          all_goals
            go_wp2_with fail
            go_ret
            exact ⟨ret_str HF.out.symm, HB0.out.trans ((HBL.out.trans (hb.mono HBL.out.size)).mono HB0.out.size)⟩
        · have hol2 : out.length = 2 := by rw [HLO.out]; exact if_neg h23
          have hkl : ks.length = 2 := by rw [HKN.out]; exact if_neg h23
          obtain ⟨p, q, rfl⟩ := len_two hol2
          obtain ⟨a, a2, rfl⟩ := len_two hkl
          have hpq : brk (eWrapped o a.op 0) (eText a) = p ∧ brk (eWrapped o a2.op 1) (eText a2) = q := by
            have h := HAN.out.trans HANS.out.symm
            rw [ptX_cons, ptX_cons] at h
            injection h with h h'
            injection h' with h'
            exact ⟨h.symm, h'.symm⟩
          obtain ⟨hp, hp2⟩ := hpq
          have hla := HL.out 0 (by simp)
          have hlb := HL.out 1 (by simp)
          obtain ⟨s1, hs1⟩ : ∃ s, str p = s := ⟨_, rfl⟩
          obtain ⟨s3, hs3⟩ : ∃ s, str q = s := ⟨_, rfl⟩
          have hz1' : s1.size ≤ 18014398509481999 := by
            rw [← hs1, str_size, ← hp, brk_len]
            have : (eText a).length ≤ 18014398509481984 := hla
            split <;> omega
          have hz3' : s3.size ≤ 18014398509481999 := by
            rw [← hs3, str_size, ← hp2, brk_len]
            have : (eText a2).length ≤ 18014398509481984 := hlb
            split <;> omega
          have hsp : (⟨#[32]⟩ : ByteArray) = str [32] := rfl
          have HF : Hid (str (eText (.mk o n nm [a, a2])) = s1 ++ ⟨#[32]⟩ ++ s2 ++ ⟨#[32]⟩ ++ s3) := Lib.hid (by rw [text_eq_two h2i, hp, hp2, ← str_app, ← str_app, ← str_app, ← str_app, str_data, HS2.out, hs1, hs3, hsp])
          have SK : ∀ W, Below wr.heap.size wr W → W.cell? ⟨K, 0, none⟩ = some (.int .i64 o) ∧ W.cell? ⟨K, 1, none⟩ = some (.int .i64 n) ∧ W.cell? ⟨K, 2, none⟩ = some (.string nm) ∧ W.cell? ⟨K, 3, none⟩ = some (.slice A 2 c) ∧ W.cell? ⟨g, 0, none⟩ = some (.string s1) ∧ W.cell? ⟨g, 1, none⟩ = some (.string s3) ∧ Hid (Below wr.heap.size wr W) := fun W hW => by
            have hb := (hW.block _ (blk_lt HLK.out)).trans HLK.out
            have hc := s_cell (HROW.out.keep (Same.of_below (M := []) hW)) 0 (by simp)
            have hd := s_cell (HROW.out.keep (Same.of_below (M := []) hW)) 1 (by simp)
            exact ⟨(blk_cell hb 0).trans rfl, (blk_cell hb 1).trans rfl, (blk_cell hb 2).trans rfl, (blk_cell hb 3).trans rfl, by rw [← hs1]; exact hc, by rw [← hs3]; exact hd, hW⟩
          have HSK := Lib.hid SK
          have e1 : (⟨#[32]⟩ : ByteArray).size = 1 := rfl
          have hz2n : s2.size ≤ 2 := by omega
          have c1 : ∀ W, (Op.stringOp .add s1 ⟨#[32]⟩).run Tryz.prog W = .ok (.string (s1 ++ ⟨#[32]⟩)) W := fun W => run_string_add_sum (w := W) _ _ (by rw [e1]; omega)
          have c2 : ∀ W, (Op.stringOp .add (s1 ++ ⟨#[32]⟩) s2).run Tryz.prog W = .ok (.string (s1 ++ ⟨#[32]⟩ ++ s2)) W := fun W => run_string_add_sum (w := W) _ _ (by rw [ByteArray.size_append, e1]; omega)
          have c3 : ∀ W, (Op.stringOp .add (s1 ++ ⟨#[32]⟩ ++ s2) ⟨#[32]⟩).run Tryz.prog W = .ok (.string (s1 ++ ⟨#[32]⟩ ++ s2 ++ ⟨#[32]⟩)) W := fun W => run_string_add_sum (w := W) _ _ (by rw [ByteArray.size_append, ByteArray.size_append, e1]; omega)
          have c4 : ∀ W, (Op.stringOp .add (s1 ++ ⟨#[32]⟩ ++ s2 ++ ⟨#[32]⟩) s3).run Tryz.prog W = .ok (.string (s1 ++ ⟨#[32]⟩ ++ s2 ++ ⟨#[32]⟩ ++ s3)) W := fun W => run_string_add_sum (w := W) _ _ (by rw [ByteArray.size_append, ByteArray.size_append, ByteArray.size_append, e1]; omega)
          clear hol2 hkl hp hp2 hla hlb hs1 hs3 SK h23 h2i hsp e1
          rw [show ([p, q] : List Bs).length = 2 from rfl]
          rw [show ([a, a2] : List Ex).length = 2 from rfl] at hge z3 hlc hlcz
          clear hol hol1 hcl hk2 hk1 hj hlt hjk h2 h16 hz2n hmz
          go_wp2_with fail
          have HBr := Lib.hid ((Below.refl wr.heap.size wr).drew)
          obtain ⟨i0, i1, i2, i3, i4, i5, i6⟩ := HSK.out _ HBr.out
          go_region_held3 (fun W => W.cell? ⟨K, 0, none⟩ = some (.int .i64 o) ∧ W.cell? ⟨K, 1, none⟩ = some (.int .i64 n) ∧ W.cell? ⟨K, 2, none⟩ = some (.string nm) ∧ W.cell? ⟨K, 3, none⟩ = some (.slice A 2 c) ∧ W.cell? ⟨g, 0, none⟩ = some (.string s1) ∧ W.cell? ⟨g, 1, none⟩ = some (.string s3) ∧ Hid (Below wr.heap.size wr W))
            (first | exact HSK.out _ hb | exact HSK.out _ HBr.out | go_keep)
            (first
              | (go_at_call 44; refine (HSG.out _ ?_).mono ?_; (first | exact HBr.out | assumption); rintro e w' ⟨rfl, hb⟩))
          all_goals
            go_wp2_with fail
            go_ret
            exact ⟨ret_str HF.out.symm, HB0.out.trans ((HBL.out.trans (hb.mono HBL.out.size)).mono HB0.out.size)⟩

theorem xtext_any (N : Nat) : ∀ (e : Ex) (A : Option Addr) (c : Nat) (w : World), SizeOf.sizeOf e < N → exK.Row [] w A e.kids → e.kids.length ≤ c → ExOk e → ExSh e → (∃ m, 0 ≤ eTok e m) → (eText e).length ≤ 18014398509481984 →
    Calls Tryz.prog 28 #[exV e A c] w fun r w' => r = .returned (.string (str (eText e))) ∧ Below w.heap.size w w' := by
  induction N with
  | zero => intro e A c w h; omega
  | succ N ih =>
    intro e A c w hN hr hlc hk hs hm hl
    obtain ⟨m, hm⟩ := hm
    cases hs with
    | @leaf op n nm ks h h2 =>
      subst h2
      exact xtext_leaf op n nm A c w h (fun e => by subst e; exact tok_num hm) hk.n.2
    | @node op n nm ks h1 h2 h3 h4 =>
      have hno : ¬ (op = 0 ∨ op = 1) := by omega
      obtain ⟨o, rfl⟩ := Int.eq_ofNat_of_zero_le (show 0 ≤ op by omega)
      have hkl : ∀ (j : Nat) (hj : j < ks.length), (eText ks[j]).length ≤ 18014398509481984 := by
        by_cases ho : (o : Int) = 2 ∨ (o : Int) = 3
        · have hp : eParts o = 1 := if_pos ho
          obtain ⟨a, rfl⟩ : ∃ a, ks = [a] := List.length_eq_one_iff.1 (h3.trans hp)
          have hla := text_kid_one (n := n) (nm := nm) (a := a) hno
          intro j hj
          obtain rfl : j = 0 := by simp at hj; exact hj
          exact Nat.le_trans hla hl
        · have hp : eParts o = 2 := if_neg ho
          obtain ⟨a, b, rfl⟩ := len_two (h3.trans hp)
          have hla := text_kid_two (n := n) (nm := nm) (a := a) (b := b) hno
          intro j hj
          have : j = 0 ∨ j = 1 := by simp at hj; omega
          rcases this with rfl | rfl
          · exact Nat.le_trans hla.1 hl
          · exact Nat.le_trans hla.2 hl
      refine xtext_node o n nm ks A c w (by omega) (by omega) h3 hr hlc hkl (fun j hj A' c' W hr' hl' => ih _ A' c' W ?_ hr' hl' (hk.kids _ (List.getElem_mem hj)) (h4 _ (List.getElem_mem hj)) (tok_kids hno hm _ (List.getElem_mem hj)) (hkl j hj))
      have h7 : SizeOf.sizeOf ks[j] < SizeOf.sizeOf ks := List.sizeOf_lt_of_mem (List.getElem_mem hj)
      simp at hN
      omega

set_option maxHeartbeats 4000000 in
set_option maxRecDepth 100000 in
theorem xprint_any (e : Ex) (A : Option Addr) (c : Nat) (w : World) (hr : exK.Row [] w A e.kids) (hlc : e.kids.length ≤ c) (hk : ExOk e) (hn : ExN e) :
    Calls Tryz.prog 13 #[exV e A c] w fun r w' => r = .returned (.string (str (ePrint e))) ∧ Below w.heap.size w w' := by
  have HM := Lib.hid (fun W h => xmay_any e A c W h hlc hn)
  obtain ⟨w1, hw1⟩ : ∃ w', w.alloc (.cells #[.int .i64 e.op, .int .i64 e.n, .string e.name, .slice A e.kids.length c] 24 (0, 0)) = w' := ⟨_, rfl⟩
  have hb1 : Below w.heap.size w w1 := hw1 ▸ (Below.refl _ _).alloc (Nat.le_refl _) _
  have hq1 : ExB w1 w.heap.size e A c := hw1 ▸ heap_alloc_new _ _
  obtain ⟨K, hK⟩ : ∃ K, w.heap.size = K := ⟨_, rfl⟩
  have Q1 : Hid (ExB w1 K e A c) := Lib.hid (by rw [← hK]; exact hq1)
  have HB1 := Lib.hid hb1
  have R1 := Lib.hid (hr.keep (Same.of_below (M := []) hb1))
  have HW1 := Lib.hid hw1
  have HX : Hid (ePrint e = if eMay e then eText e else []) := rfl
  cases hb : eMay e
  · rw [hb] at HM HX
    clear hr hb1 hq1 hw1 hb
    go_enter Tryz.func13, Tryz.ntmps13
    go_wp2_with fail
    clear hK
    rw [HW1.out]
    refine (HM.out w1 R1.out).mono ?_
    rintro r w2 ⟨rfl, hb2⟩
    have HB2 := Lib.hid (HB1.out.trans (hb2.mono HB1.out.size))
    clear hb2
    go_wp2_with fail
    go_ret
    exact ⟨ret_str (by rw [HX.out]; rfl), HB2.out⟩
  · have hm : ∃ m, 0 ≤ eTok e m := by
      unfold eMay at hb
      rw [Bool.and_eq_true, decide_eq_true_eq] at hb
      exact ⟨64, by omega⟩
    have HRK := Lib.hid (fun W hr => xtext_any (SizeOf.sizeOf e + 1) e A c W (by omega) hr hlc hk (sh_of_may hb) hm (text_len_may hk hb))
    rw [hb] at HM HX
    clear hr hb1 hq1 hw1 hb hm
    go_enter Tryz.func13, Tryz.ntmps13
    go_wp2_with fail
    clear hK
    rw [HW1.out]
    refine (HM.out w1 R1.out).mono ?_
    rintro r w2 ⟨rfl, hb2⟩
    have HB2 := Lib.hid (HB1.out.trans (hb2.mono HB1.out.size))
    have R2 := Lib.hid (R1.out.keep (Same.of_below (M := []) hb2))
    have Q2 := Lib.hid (Q1.out.step hb2)
    obtain ⟨x0, x1, x2, x3⟩ := Q2.out.cells
    have hlK := blk_lt Q2.out
    clear hb2
    go_wp2_with fail
    refine (HRK.out _ R2.out).mono ?_
    rintro r w3 ⟨rfl, hb3⟩
    have HB3 := Lib.hid (HB2.out.trans (hb3.mono HB2.out.size))
    clear x0 x1 x2 x3 hlK hb3
    go_wp2_with fail
    go_ret
    exact ⟨ret_str (by rw [HX.out]; rfl), HB3.out⟩
end Go.Proofs.YtgaiheojlmebaaaGreatDoor
