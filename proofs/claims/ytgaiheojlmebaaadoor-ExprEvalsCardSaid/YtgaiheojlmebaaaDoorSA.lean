/- Walks: the reference's value of a tree. -/
import Derived.Test.YtgaiheojlmebaaaDoorS0
import Derived.Test.YtgaiheojlmebaaaDoorS4
import Derived.Deep.RegionHeld3
namespace Go.Proofs.YtgaiheojlmebaaaDoor
open Go Go.RowKit Go.Lib

/-- The parts' values in a row, up to the first error. -/
def xRk (env : List Cel) : List Ex → List Int → List Int × Int
  | [], acc => (acc, 0)
  | k :: ks, acc => if (eReck env k).2 ≠ 0 then ([], (eReck env k).2) else xRk env ks (acc ++ [(eReck env k).1])
def xFin (o : Int) (p : List Int × Int) : Int × Int :=
  if p.2 ≠ 0 then (0, p.2) else if o = 2 then chk (-(p.1.getD 0 0)) else if o = 3 then (b01 (p.1.getD 0 0 == 0), 0) else eTwo o (p.1.getD 0 0) (p.1.getD 1 0)
theorem xFin_one (env : List Cel) (o n : Int) (nm : ByteArray) (a : Ex) (ho : o = 2 ∨ o = 3) : eReck env (.mk o n nm [a]) = xFin o (xRk env [a] []) := by
  have HX : eReck env (.mk o n nm [a]) = if o = 0 then (n, 0) else if o = 1 then (if (cellP nm env).2 then ((cellP nm env).1, 0) else (0, 21)) else if (eReck env a).2 ≠ 0 then (0, (eReck env a).2) else if o = 2 then chk (-(eReck env a).1) else (b01 ((eReck env a).1 == 0), 0) := by rw [eReck.eq_def]
  rw [HX, if_neg (by omega), if_neg (by omega)]
  unfold xFin
  rw [xRk]
  by_cases h : (eReck env a).2 ≠ 0
  · rw [if_pos h, if_pos h]
    exact (if_pos h).symm
  · rw [if_neg h, if_neg h, xRk]
    have hz : ¬ ((([] ++ [(eReck env a).1], (0 : Int)) : List Int × Int).2 ≠ 0) := by simp
    rw [if_neg hz]
    rcases ho with rfl | rfl
    · rw [if_pos rfl, if_pos rfl]; rfl
    · rw [if_neg (show ¬ (3 : Int) = 2 by decide), if_neg (show ¬ (3 : Int) = 2 by decide), if_pos rfl]; rfl
theorem xFin_two (env : List Cel) (o n : Int) (nm : ByteArray) (a b : Ex) (ho : 4 ≤ o) : eReck env (.mk o n nm [a, b]) = xFin o (xRk env [a, b] []) := by
  have HX : eReck env (.mk o n nm [a, b]) = if o = 0 then (n, 0) else if o = 1 then (if (cellP nm env).2 then ((cellP nm env).1, 0) else (0, 21)) else if (eReck env a).2 ≠ 0 then (0, (eReck env a).2) else if (eReck env b).2 ≠ 0 then (0, (eReck env b).2) else eTwo o (eReck env a).1 (eReck env b).1 := by rw [eReck.eq_def]
  rw [HX, if_neg (by omega), if_neg (by omega)]
  unfold xFin
  rw [xRk]
  by_cases h : (eReck env a).2 ≠ 0
  · rw [if_pos h, if_pos h]
    exact (if_pos h).symm
  · rw [if_neg h, if_neg h, xRk]
    by_cases h2 : (eReck env b).2 ≠ 0
    · rw [if_pos h2, if_pos h2]
      exact (if_pos h2).symm
    · have hz : ¬ ((([] ++ [(eReck env a).1] ++ [(eReck env b).1], (0 : Int)) : List Int × Int).2 ≠ 0) := by simp
      rw [if_neg h2, if_neg h2, xRk, if_neg hz, if_neg (by omega), if_neg (by omega)]
      rfl
theorem xFin_any (env : List Cel) (o n : Int) (nm : ByteArray) (ks : List Ex) (h2 : 2 ≤ o) (hl : ks.length = eParts o) : eReck env (.mk o n nm ks) = xFin o (xRk env ks []) := by
  by_cases ho : o = 2 ∨ o = 3
  · obtain ⟨a, rfl⟩ : ∃ a, ks = [a] := List.length_eq_one_iff.1 (hl.trans (if_pos ho))
    exact xFin_one env o n nm a ho
  · have h5 := hl.trans (if_neg ho)
    obtain ⟨a, b, rfl⟩ : ∃ a b, ks = [a, b] := by
      match ks, h5 with
      | [a, b], _ => exact ⟨a, b, rfl⟩
    exact xFin_two env o n nm a b (by omega)

set_option maxHeartbeats 4000000 in
set_option maxRecDepth 100000 in
theorem xreckon_leaf (o n : Int) (nm : ByteArray) (A : Option Addr) (c : Nat) (env : List Cel) (EA : Option Addr) (ec : Nat) (w : World) (ho : o = 0 ∨ o = 1) (he : celK.Row [] w EA env) (hle : env.length ≤ ec) :
    Calls Tryd.prog 33 #[.agg #[.int .i64 o, .int .i64 n, .string nm, .slice A 0 c], .slice EA env.length ec] w (ReckPost (eReck env (.mk o n nm [])) w) := by
  rcases ho with rfl | rfl
  · have HX : Hid (eReck env (.mk 0 n nm []) = (n, 0)) := by rw [eReck.eq_def]; exact rfl
    go_enter Tryd.func33, Tryd.ntmps33
    go_wp2_with fail
    go_ret2
    exact ⟨by rw [HX.out]; rfl, (Below.refl _ _).alloc (Nat.le_refl _) _⟩
  · have HX : Hid (eReck env (.mk 1 n nm []) = if (cellP nm env).2 then ((cellP nm env).1, 0) else (0, 21)) := by rw [eReck.eq_def]; exact rfl
    have HC := Lib.hid (fun W h => xcell_any env EA ec nm W h hle)
    have HE := Lib.hid he
    obtain ⟨p, hp⟩ : ∃ p, cellP nm env = p := ⟨_, rfl⟩
    rw [hp] at HC HX
    obtain ⟨p1, p2⟩ := p
    clear hp he
    cases p2
    all_goals
      go_enter Tryd.func33, Tryd.ntmps33
      go_wp2_with (go_at_call 53; refine (HC.out _ (HE.out.keep ((Same.refl [] w).alloc _))).mono ?_; rintro r w2 ⟨rfl, rfl⟩)
      go_ret2
      exact ⟨by rw [HX.out]; rfl, (Below.refl _ _).alloc (Nat.le_refl _) _⟩

set_option maxHeartbeats 16000000 in
set_option maxRecDepth 100000 in
theorem xreckon_neg (n : Int) (nm : ByteArray) (ks : List Ex) (A : Option Addr) (c : Nat) (env : List Cel) (EA : Option Addr) (ec : Nat) (w : World) (hl : ks.length = 1) (he : celK.Row [] w EA env) (hr : exK.Row [] w A ks) (hlc : ks.length ≤ c)
    (hfit : ∀ k, k ∈ ks → Fits (eReck env k).1)
    (ih : ∀ (j : Nat) (hj : j < ks.length) (A' : Option Addr) (c' : Nat) (W : World), exK.Row [] W A' ks[j].kids → ks[j].kids.length ≤ c' → celK.Row [] W EA env → Calls Tryd.prog 33 #[exV ks[j] A' c', .slice EA env.length ec] W (ReckPost (eReck env ks[j]) W)) :
    Calls Tryd.prog 33 #[.agg #[.int .i64 2, .int .i64 n, .string nm, .slice A ks.length c], .slice EA env.length ec] w (ReckPost (eReck env (.mk 2 n nm ks)) w) := by
  rw [xFin_any env 2 n nm ks (by omega) (hl.trans rfl)]
  obtain ⟨ANS, hANS⟩ : ∃ a, xRk env ks [] = a := ⟨_, rfl⟩
  rw [hANS]
  have HANS := Lib.hid hANS
  have HIH := Lib.hid ih
  have HFIT := Lib.hid hfit
  have hlp1 : (ks.length : Int) ≤ 1 := by omega
  have hlp2 : 1 ≤ (ks.length : Int) := by omega
  clear hl
  obtain ⟨ad, rfl⟩ := row_some hr (by omega)
  have HROW := Lib.hid hr
  have HE := Lib.hid he
  have hlcz : (ks.length : Int) ≤ c := by omega
  have hlen2 : (ks.length : Int) ≤ 2 := by omega
  obtain ⟨w0, hw0⟩ : ∃ w', w.alloc (.cells #[.int .i64 2, .int .i64 n, .string nm, .slice (some ad) ks.length c] 25 (0, 0)) = w' := ⟨_, rfl⟩
  have hal : Below w.heap.size w w0 := hw0 ▸ (Below.refl _ _).alloc (Nat.le_refl _) _
  have hq : w0.heap[w.heap.size]? = some (.cells #[.int .i64 2, .int .i64 n, .string nm, .slice (some ad) ks.length c] 25 (0, 0)) := hw0 ▸ heap_alloc_new _ _
  have HAL := Lib.hid hal
  have HQ := Lib.hid hq
  have HW0 := Lib.hid hw0
  obtain ⟨⟨z0, z1, z2, z3⟩, _⟩ := blk4' hq
  clear hANS ih hfit hr he hal hq hw0
  go_enter Tryd.func33, Tryd.ntmps33
  go_wp2_with fail
  rw [HW0.out]
  go_loopg [8, 9] (ks.length + 1) (fun k s8 s9 w' => ∃ (j : Nat) (vs : List Int) (B : Option Addr) (d : Nat), s9 = .int .i64 j ∧ s8 = .slice B j d ∧ vs.length = j ∧ j ≤ ks.length ∧ ks.length - j < k ∧
    w'.ownsRow w0.heap.size 3 1 (.slice B j d) j (vs.flatMap intE) ∧ (∀ x, x ∈ vs → Fits x) ∧ xRk env (ks.drop j) vs = ANS ∧ Below w0.heap.size w0 w')
  case atStart => exact ⟨0, [], none, 0, rfl, rfl, rfl, by omega, by omega, ⟨rfl, .inl ⟨rfl, rfl⟩⟩, fun x hx => by simp at hx, HANS.out, Below.refl _ _⟩
  case round =>
    obtain ⟨j, vs, B, d, rfl, rfl, hvs, hj, hjk, hown, hvf, hans, hbl⟩ := hrel
    obtain ⟨gk, rfl⟩ : ∃ k, gk = k + 1 := ⟨gk - 1, by omega⟩
    have HBL := Lib.hid hbl
    have HA := Lib.hid hans
    have HOWN := Lib.hid hown
    have HVF := Lib.hid hvf
    have hq := (hbl.block _ (blk_lt HQ.out)).trans HQ.out
    have HQr := Lib.hid hq
    clear z0 z1 z2 z3 hown hvf hans
    obtain ⟨⟨z0, z1, z2, z3⟩, _⟩ := blk4' hq
    have hj0 : (0 : Int) ≤ j := by omega
    by_cases hlt : j < ks.length
    · have hltz : (j : Int) < ks.length := by omega
      have hltp : (j : Int) < 1 := by omega
      have hS : Same [] w wr := Same.of_below (HAL.out.trans (hbl.mono HAL.out.size))
      have hrow : exK.Row [] wr (some ad) ks := HROW.out.keep hS
      obtain ⟨A', c', x0, x1, x2, x3, hlc', hrow', _⟩ := ex_some hrow j hlt
      have HKID := Lib.hid (HIH.out j hlt A' c' wr hrow' hlc' (HE.out.keep hS))
      obtain ⟨p, hp⟩ : ∃ p, eReck env ks[j] = p := ⟨_, rfl⟩
      have hpf := HFIT.out _ (List.getElem_mem hlt)
      rw [hp] at HKID hpf
      have h := HA.out
      rw [drop_cons ks j hlt, xRk, hp] at h
      obtain ⟨p1, p2⟩ := p
      unfold ReckPost at HKID
      have HPF := Lib.hid hpf
      have HN := Lib.hid h
      have hadlt := World.block_lt_of_cell? wr _ x0
      clear h hp hrow hrow' hS hbl hq hpf
      go_wp2_with fail
      refine HKID.out.mono ?_
      rintro r w2 ⟨rfl, hb2⟩
      have HQ2 := Lib.hid ((hb2.block _ (blk_lt HQr.out)).trans HQr.out)
      have HBL2 := Lib.hid (HBL.out.trans (hb2.mono HBL.out.size))
      have HO2 := Lib.hid (own_below HOWN.out hb2)
      clear z0 z1 z2 z3 hb2
      by_cases hp2 : p2 = 0
      · subst hp2
        have h := HN.out
        rw [if_neg (by simp)] at h
        have HN2 := Lib.hid h
        clear h
        obtain ⟨i0, hi0, hz0, hz1, hz2⟩ := info_parts info_int
        have hbs := HBL2.out.size
        go_wp2_with (at_builtin; refine wpList_append_lies _ (by rfl) _ _ _ (by rfl) w0.heap.size 3 i0 _ 1 8 Tryd.underlying50 hi0 hz0 hz1 hz2 rfl (by omega) (.slice B j d) j (vs.flatMap intE) (by rfl) (HO2.out.alloc _) ⟨w2.heap.size, 0, none⟩ 1 1 [.int .i64 p1] (by rfl) (by rfl) (World.news_of_block (cs := #[.int .i64 p1]) (t := 3) (fr := (0, 0)) (heap_alloc_new w2 _)) (by simp [Value.oneCell']) (by omega) (by unfold maxLen; omega) (by omega) (by simp; omega) (w2.heap.size + 1) (by simp) ?_; intro g cap w3 hown3 hgrow hat hlt3; refine Hid.out ?_)
        refine Lib.hid ?_
        have hS3 : Same [] w0 w3 := ((Same.of_below (M := []) HBL2.out).alloc _).grown hgrow (fun k hk => .inr (own_block HO2.out k hk).1)
        have HB3 := Lib.hid hS3.below
        have HO3 := Lib.hid hown3
        clear hS3 hown3 hgrow hat hlt3 hi0 hz0 hz1 hz2 hbs
        go_wp2_with fail
        go_roundg gk
        case measure => omega
        case rel =>
          refine ⟨j + 1, vs ++ [p1], some ⟨g, 0, none⟩, cap, by go_num, rfl, by simp [hvs], by omega, by omega, ?_, ?_, HN2.out, HB3.out⟩
          · rw [List.flatMap_append]; exact HO3.out
          · intro x hx
            rcases List.mem_append.1 hx with hx | hx
            · exact HVF.out x hx
            · simp at hx; subst hx; exact HPF.out
      · have hpb : (p2 != 0) = true := bnet hp2
        have h := HN.out
        rw [if_pos hp2] at h
        have HX : Hid (xFin 2 ANS = (0, p2)) := Lib.hid (by rw [← h]; exact if_pos hp2)
        clear h hp2
        go_wp2_with fail
        go_ret2
        exact ⟨by rw [HX.out]; first | done | rfl, HAL.out.trans (HBL2.out.mono HAL.out.size)⟩
    · obtain rfl : j = 1 := by omega
      have hge : (ks.length : Int) ≤ 1 := by omega
      have h := HA.out
      rw [List.drop_of_length_le (by omega), xRk] at h
      have HX : Hid (xFin 2 (vs, 0) = xFin 2 ANS) := Lib.hid (by rw [h])
      clear h hbl hq
      obtain ⟨g, cp, eg, hg1, hg2⟩ := HOWN.out.form (by decide)
      injection eg with e1 _ e2
      subst e1 e2
      obtain ⟨v0, rfl⟩ : ∃ x, vs = [x] := List.length_eq_one_iff.1 hvs
      have c0 : wr.cell? ⟨g, 0, none⟩ = some (.int .i64 v0) := (HOWN.out.cellAt 0 (by decide)).trans rfl
      have HC := Lib.hid (xtwoE_any 5 0 v0 wr (by decide) (by decide) ⟨by decide, by decide⟩ (HVF.out v0 (by simp)))
      have HR : Hid (eTwo 5 0 v0 = xFin 2 ANS) := Lib.hid (by
        rw [← HX.out]
        unfold xFin eTwo
        rw [if_neg (by decide), if_pos rfl, if_neg (by simp), if_pos rfl, Int.zero_sub]
        rfl)
      go_wp2_with (go_at_call 54; refine HC.out.mono ?_; rintro r w2 ⟨rfl, rfl⟩)
      go_ret2
      exact ⟨by rw [← HR.out]; first | done | rfl, HAL.out.trans (HBL.out.mono HAL.out.size)⟩

set_option maxHeartbeats 16000000 in
set_option maxRecDepth 100000 in
theorem xreckon_not (n : Int) (nm : ByteArray) (ks : List Ex) (A : Option Addr) (c : Nat) (env : List Cel) (EA : Option Addr) (ec : Nat) (w : World) (hl : ks.length = 1) (he : celK.Row [] w EA env) (hr : exK.Row [] w A ks) (hlc : ks.length ≤ c)
    (hfit : ∀ k, k ∈ ks → Fits (eReck env k).1)
    (ih : ∀ (j : Nat) (hj : j < ks.length) (A' : Option Addr) (c' : Nat) (W : World), exK.Row [] W A' ks[j].kids → ks[j].kids.length ≤ c' → celK.Row [] W EA env → Calls Tryd.prog 33 #[exV ks[j] A' c', .slice EA env.length ec] W (ReckPost (eReck env ks[j]) W)) :
    Calls Tryd.prog 33 #[.agg #[.int .i64 3, .int .i64 n, .string nm, .slice A ks.length c], .slice EA env.length ec] w (ReckPost (eReck env (.mk 3 n nm ks)) w) := by
  rw [xFin_any env 3 n nm ks (by omega) (hl.trans rfl)]
  obtain ⟨ANS, hANS⟩ : ∃ a, xRk env ks [] = a := ⟨_, rfl⟩
  rw [hANS]
  have HANS := Lib.hid hANS
  have HIH := Lib.hid ih
  have HFIT := Lib.hid hfit
  have hlp1 : (ks.length : Int) ≤ 1 := by omega
  have hlp2 : 1 ≤ (ks.length : Int) := by omega
  clear hl
  obtain ⟨ad, rfl⟩ := row_some hr (by omega)
  have HROW := Lib.hid hr
  have HE := Lib.hid he
  have hlcz : (ks.length : Int) ≤ c := by omega
  have hlen2 : (ks.length : Int) ≤ 2 := by omega
  obtain ⟨w0, hw0⟩ : ∃ w', w.alloc (.cells #[.int .i64 3, .int .i64 n, .string nm, .slice (some ad) ks.length c] 25 (0, 0)) = w' := ⟨_, rfl⟩
  have hal : Below w.heap.size w w0 := hw0 ▸ (Below.refl _ _).alloc (Nat.le_refl _) _
  have hq : w0.heap[w.heap.size]? = some (.cells #[.int .i64 3, .int .i64 n, .string nm, .slice (some ad) ks.length c] 25 (0, 0)) := hw0 ▸ heap_alloc_new _ _
  have HAL := Lib.hid hal
  have HQ := Lib.hid hq
  have HW0 := Lib.hid hw0
  obtain ⟨⟨z0, z1, z2, z3⟩, _⟩ := blk4' hq
  clear hANS ih hfit hr he hal hq hw0
  go_enter Tryd.func33, Tryd.ntmps33
  go_wp2_with fail
  rw [HW0.out]
  go_loopg [8, 9] (ks.length + 1) (fun k s8 s9 w' => ∃ (j : Nat) (vs : List Int) (B : Option Addr) (d : Nat), s9 = .int .i64 j ∧ s8 = .slice B j d ∧ vs.length = j ∧ j ≤ ks.length ∧ ks.length - j < k ∧
    w'.ownsRow w0.heap.size 3 1 (.slice B j d) j (vs.flatMap intE) ∧ (∀ x, x ∈ vs → Fits x) ∧ xRk env (ks.drop j) vs = ANS ∧ Below w0.heap.size w0 w')
  case atStart => exact ⟨0, [], none, 0, rfl, rfl, rfl, by omega, by omega, ⟨rfl, .inl ⟨rfl, rfl⟩⟩, fun x hx => by simp at hx, HANS.out, Below.refl _ _⟩
  case round =>
    obtain ⟨j, vs, B, d, rfl, rfl, hvs, hj, hjk, hown, hvf, hans, hbl⟩ := hrel
    obtain ⟨gk, rfl⟩ : ∃ k, gk = k + 1 := ⟨gk - 1, by omega⟩
    have HBL := Lib.hid hbl
    have HA := Lib.hid hans
    have HOWN := Lib.hid hown
    have HVF := Lib.hid hvf
    have hq := (hbl.block _ (blk_lt HQ.out)).trans HQ.out
    have HQr := Lib.hid hq
    clear z0 z1 z2 z3 hown hvf hans
    obtain ⟨⟨z0, z1, z2, z3⟩, _⟩ := blk4' hq
    have hj0 : (0 : Int) ≤ j := by omega
    by_cases hlt : j < ks.length
    · have hltz : (j : Int) < ks.length := by omega
      have hltp : (j : Int) < 1 := by omega
      have hS : Same [] w wr := Same.of_below (HAL.out.trans (hbl.mono HAL.out.size))
      have hrow : exK.Row [] wr (some ad) ks := HROW.out.keep hS
      obtain ⟨A', c', x0, x1, x2, x3, hlc', hrow', _⟩ := ex_some hrow j hlt
      have HKID := Lib.hid (HIH.out j hlt A' c' wr hrow' hlc' (HE.out.keep hS))
      obtain ⟨p, hp⟩ : ∃ p, eReck env ks[j] = p := ⟨_, rfl⟩
      have hpf := HFIT.out _ (List.getElem_mem hlt)
      rw [hp] at HKID hpf
      have h := HA.out
      rw [drop_cons ks j hlt, xRk, hp] at h
      obtain ⟨p1, p2⟩ := p
      unfold ReckPost at HKID
      have HPF := Lib.hid hpf
      have HN := Lib.hid h
      have hadlt := World.block_lt_of_cell? wr _ x0
      clear h hp hrow hrow' hS hbl hq hpf
      go_wp2_with fail
      refine HKID.out.mono ?_
      rintro r w2 ⟨rfl, hb2⟩
      have HQ2 := Lib.hid ((hb2.block _ (blk_lt HQr.out)).trans HQr.out)
      have HBL2 := Lib.hid (HBL.out.trans (hb2.mono HBL.out.size))
      have HO2 := Lib.hid (own_below HOWN.out hb2)
      clear z0 z1 z2 z3 hb2
      by_cases hp2 : p2 = 0
      · subst hp2
        have h := HN.out
        rw [if_neg (by simp)] at h
        have HN2 := Lib.hid h
        clear h
        obtain ⟨i0, hi0, hz0, hz1, hz2⟩ := info_parts info_int
        have hbs := HBL2.out.size
        go_wp2_with (at_builtin; refine wpList_append_lies _ (by rfl) _ _ _ (by rfl) w0.heap.size 3 i0 _ 1 8 Tryd.underlying50 hi0 hz0 hz1 hz2 rfl (by omega) (.slice B j d) j (vs.flatMap intE) (by rfl) (HO2.out.alloc _) ⟨w2.heap.size, 0, none⟩ 1 1 [.int .i64 p1] (by rfl) (by rfl) (World.news_of_block (cs := #[.int .i64 p1]) (t := 3) (fr := (0, 0)) (heap_alloc_new w2 _)) (by simp [Value.oneCell']) (by omega) (by unfold maxLen; omega) (by omega) (by simp; omega) (w2.heap.size + 1) (by simp) ?_; intro g cap w3 hown3 hgrow hat hlt3; refine Hid.out ?_)
        refine Lib.hid ?_
        have hS3 : Same [] w0 w3 := ((Same.of_below (M := []) HBL2.out).alloc _).grown hgrow (fun k hk => .inr (own_block HO2.out k hk).1)
        have HB3 := Lib.hid hS3.below
        have HO3 := Lib.hid hown3
        clear hS3 hown3 hgrow hat hlt3 hi0 hz0 hz1 hz2 hbs
        go_wp2_with fail
        go_roundg gk
        case measure => omega
        case rel =>
          refine ⟨j + 1, vs ++ [p1], some ⟨g, 0, none⟩, cap, by go_num, rfl, by simp [hvs], by omega, by omega, ?_, ?_, HN2.out, HB3.out⟩
          · rw [List.flatMap_append]; exact HO3.out
          · intro x hx
            rcases List.mem_append.1 hx with hx | hx
            · exact HVF.out x hx
            · simp at hx; subst hx; exact HPF.out
      · have hpb : (p2 != 0) = true := bnet hp2
        have h := HN.out
        rw [if_pos hp2] at h
        have HX : Hid (xFin 3 ANS = (0, p2)) := Lib.hid (by rw [← h]; exact if_pos hp2)
        clear h hp2
        go_wp2_with fail
        go_ret2
        exact ⟨by rw [HX.out]; first | done | rfl, HAL.out.trans (HBL2.out.mono HAL.out.size)⟩
    · obtain rfl : j = 1 := by omega
      have hge : (ks.length : Int) ≤ 1 := by omega
      have h := HA.out
      rw [List.drop_of_length_le (by omega), xRk] at h
      have HX : Hid (xFin 3 (vs, 0) = xFin 3 ANS) := Lib.hid (by rw [h])
      clear h hbl hq
      obtain ⟨g, cp, eg, hg1, hg2⟩ := HOWN.out.form (by decide)
      injection eg with e1 _ e2
      subst e1 e2
      obtain ⟨v0, rfl⟩ : ∃ x, vs = [x] := List.length_eq_one_iff.1 hvs
      have c0 : wr.cell? ⟨g, 0, none⟩ = some (.int .i64 v0) := (HOWN.out.cellAt 0 (by decide)).trans rfl
      have HR : Hid ((b01 (v0 == 0), 0) = xFin 3 ANS) := Lib.hid (by
        rw [← HX.out]
        rfl)
      go_wp2_with (go_at_call 55; refine (xtruth_any _ _).mono ?_; rintro r w2 ⟨rfl, rfl⟩)
      go_ret2
      exact ⟨by rw [← HR.out]; first | done | rfl, HAL.out.trans (HBL.out.mono HAL.out.size)⟩

set_option maxHeartbeats 16000000 in
set_option maxRecDepth 100000 in
theorem xreckon_two (o n : Int) (nm : ByteArray) (ks : List Ex) (A : Option Addr) (c : Nat) (env : List Cel) (EA : Option Addr) (ec : Nat) (w : World) (h4 : 4 ≤ o) (h16 : o ≤ 16) (hl : ks.length = 2) (he : celK.Row [] w EA env) (hr : exK.Row [] w A ks) (hlc : ks.length ≤ c)
    (hfit : ∀ k, k ∈ ks → Fits (eReck env k).1)
    (ih : ∀ (j : Nat) (hj : j < ks.length) (A' : Option Addr) (c' : Nat) (W : World), exK.Row [] W A' ks[j].kids → ks[j].kids.length ≤ c' → celK.Row [] W EA env → Calls Tryd.prog 33 #[exV ks[j] A' c', .slice EA env.length ec] W (ReckPost (eReck env ks[j]) W)) :
    Calls Tryd.prog 33 #[.agg #[.int .i64 o, .int .i64 n, .string nm, .slice A ks.length c], .slice EA env.length ec] w (ReckPost (eReck env (.mk o n nm ks)) w) := by
  rw [xFin_any env o n nm ks (by omega) (hl.trans (if_neg (by omega)).symm)]
  obtain ⟨ANS, hANS⟩ : ∃ a, xRk env ks [] = a := ⟨_, rfl⟩
  rw [hANS]
  have HANS := Lib.hid hANS
  have b0 : (o == 0) = false := beqf (by omega)
  have b1 : (o == 1) = false := beqf (by omega)
  have b2 : (o == 2) = false := beqf (by omega)
  have b3 : (o == 3) = false := beqf (by omega)
  have HOP : Hid (4 ≤ o ∧ o ≤ 16) := Lib.hid ⟨h4, h16⟩
  have HIH := Lib.hid ih
  have HFIT := Lib.hid hfit
  have hlp1 : (ks.length : Int) ≤ 2 := by omega
  have hlp2 : 2 ≤ (ks.length : Int) := by omega
  clear hl
  obtain ⟨ad, rfl⟩ := row_some hr (by omega)
  have HROW := Lib.hid hr
  have HE := Lib.hid he
  have hlcz : (ks.length : Int) ≤ c := by omega
  have hlen2 : (ks.length : Int) ≤ 2 := by omega
  obtain ⟨w0, hw0⟩ : ∃ w', w.alloc (.cells #[.int .i64 o, .int .i64 n, .string nm, .slice (some ad) ks.length c] 25 (0, 0)) = w' := ⟨_, rfl⟩
  have hal : Below w.heap.size w w0 := hw0 ▸ (Below.refl _ _).alloc (Nat.le_refl _) _
  have hq : w0.heap[w.heap.size]? = some (.cells #[.int .i64 o, .int .i64 n, .string nm, .slice (some ad) ks.length c] 25 (0, 0)) := hw0 ▸ heap_alloc_new _ _
  have HAL := Lib.hid hal
  have HQ := Lib.hid hq
  have HW0 := Lib.hid hw0
  obtain ⟨⟨z0, z1, z2, z3⟩, _⟩ := blk4' hq
  clear hANS ih hfit hr he h4 h16 hal hq hw0
  go_enter Tryd.func33, Tryd.ntmps33
  go_wp2_with fail
  rw [HW0.out]
  go_loopg [8, 9] (ks.length + 1) (fun k s8 s9 w' => ∃ (j : Nat) (vs : List Int) (B : Option Addr) (d : Nat), s9 = .int .i64 j ∧ s8 = .slice B j d ∧ vs.length = j ∧ j ≤ ks.length ∧ ks.length - j < k ∧
    w'.ownsRow w0.heap.size 3 1 (.slice B j d) j (vs.flatMap intE) ∧ (∀ x, x ∈ vs → Fits x) ∧ xRk env (ks.drop j) vs = ANS ∧ Below w0.heap.size w0 w')
  case atStart => exact ⟨0, [], none, 0, rfl, rfl, rfl, by omega, by omega, ⟨rfl, .inl ⟨rfl, rfl⟩⟩, fun x hx => by simp at hx, HANS.out, Below.refl _ _⟩
  case round =>
    obtain ⟨j, vs, B, d, rfl, rfl, hvs, hj, hjk, hown, hvf, hans, hbl⟩ := hrel
    obtain ⟨gk, rfl⟩ : ∃ k, gk = k + 1 := ⟨gk - 1, by omega⟩
    have HBL := Lib.hid hbl
    have HA := Lib.hid hans
    have HOWN := Lib.hid hown
    have HVF := Lib.hid hvf
    have hq := (hbl.block _ (blk_lt HQ.out)).trans HQ.out
    have HQr := Lib.hid hq
    clear z0 z1 z2 z3 hown hvf hans
    obtain ⟨⟨z0, z1, z2, z3⟩, _⟩ := blk4' hq
    have hj0 : (0 : Int) ≤ j := by omega
    by_cases hlt : j < ks.length
    · have hltz : (j : Int) < ks.length := by omega
      have hltp : (j : Int) < 2 := by omega
      have hS : Same [] w wr := Same.of_below (HAL.out.trans (hbl.mono HAL.out.size))
      have hrow : exK.Row [] wr (some ad) ks := HROW.out.keep hS
      obtain ⟨A', c', x0, x1, x2, x3, hlc', hrow', _⟩ := ex_some hrow j hlt
      have HKID := Lib.hid (HIH.out j hlt A' c' wr hrow' hlc' (HE.out.keep hS))
      obtain ⟨p, hp⟩ : ∃ p, eReck env ks[j] = p := ⟨_, rfl⟩
      have hpf := HFIT.out _ (List.getElem_mem hlt)
      rw [hp] at HKID hpf
      have h := HA.out
      rw [drop_cons ks j hlt, xRk, hp] at h
      obtain ⟨p1, p2⟩ := p
      unfold ReckPost at HKID
      have HPF := Lib.hid hpf
      have HN := Lib.hid h
      have hadlt := World.block_lt_of_cell? wr _ x0
      clear h hp hrow hrow' hS hbl hq hpf
      go_wp2_with fail
      refine HKID.out.mono ?_
      rintro r w2 ⟨rfl, hb2⟩
      have HQ2 := Lib.hid ((hb2.block _ (blk_lt HQr.out)).trans HQr.out)
      have HBL2 := Lib.hid (HBL.out.trans (hb2.mono HBL.out.size))
      have HO2 := Lib.hid (own_below HOWN.out hb2)
      clear z0 z1 z2 z3 hb2
      by_cases hp2 : p2 = 0
      · subst hp2
        have h := HN.out
        rw [if_neg (by simp)] at h
        have HN2 := Lib.hid h
        clear h
        obtain ⟨i0, hi0, hz0, hz1, hz2⟩ := info_parts info_int
        have hbs := HBL2.out.size
        go_wp2_with (at_builtin; refine wpList_append_lies _ (by rfl) _ _ _ (by rfl) w0.heap.size 3 i0 _ 1 8 Tryd.underlying50 hi0 hz0 hz1 hz2 rfl (by omega) (.slice B j d) j (vs.flatMap intE) (by rfl) (HO2.out.alloc _) ⟨w2.heap.size, 0, none⟩ 1 1 [.int .i64 p1] (by rfl) (by rfl) (World.news_of_block (cs := #[.int .i64 p1]) (t := 3) (fr := (0, 0)) (heap_alloc_new w2 _)) (by simp [Value.oneCell']) (by omega) (by unfold maxLen; omega) (by omega) (by simp; omega) (w2.heap.size + 1) (by simp) ?_; intro g cap w3 hown3 hgrow hat hlt3; refine Hid.out ?_)
        refine Lib.hid ?_
        have hS3 : Same [] w0 w3 := ((Same.of_below (M := []) HBL2.out).alloc _).grown hgrow (fun k hk => .inr (own_block HO2.out k hk).1)
        have HB3 := Lib.hid hS3.below
        have HO3 := Lib.hid hown3
        clear hS3 hown3 hgrow hat hlt3 hi0 hz0 hz1 hz2 hbs
        go_wp2_with fail
        go_roundg gk
        case measure => omega
        case rel =>
          refine ⟨j + 1, vs ++ [p1], some ⟨g, 0, none⟩, cap, by go_num, rfl, by simp [hvs], by omega, by omega, ?_, ?_, HN2.out, HB3.out⟩
          · rw [List.flatMap_append]; exact HO3.out
          · intro x hx
            rcases List.mem_append.1 hx with hx | hx
            · exact HVF.out x hx
            · simp at hx; subst hx; exact HPF.out
      · have hpb : (p2 != 0) = true := bnet hp2
        have h := HN.out
        rw [if_pos hp2] at h
        have HX : Hid (xFin o ANS = (0, p2)) := Lib.hid (by rw [← h]; exact if_pos hp2)
        clear h hp2
        go_wp2_with fail
        go_ret2
        exact ⟨by rw [HX.out]; first | done | rfl, HAL.out.trans (HBL2.out.mono HAL.out.size)⟩
    · obtain rfl : j = 2 := by omega
      have hge : (ks.length : Int) ≤ 2 := by omega
      have h := HA.out
      rw [List.drop_of_length_le (by omega), xRk] at h
      have HX : Hid (xFin o (vs, 0) = xFin o ANS) := Lib.hid (by rw [h])
      clear h hbl hq
      obtain ⟨g, cp, eg, hg1, hg2⟩ := HOWN.out.form (by decide)
      injection eg with e1 _ e2
      subst e1 e2
      obtain ⟨v0, v1, rfl⟩ : ∃ x y, vs = [x, y] := by
        match vs, hvs with
        | [x, y], _ => exact ⟨x, y, rfl⟩
      have c0 : wr.cell? ⟨g, 0, none⟩ = some (.int .i64 v0) := (HOWN.out.cellAt 0 (by decide)).trans rfl
      have c1 : wr.cell? ⟨g, 1, none⟩ = some (.int .i64 v1) := (HOWN.out.cellAt 1 (by decide)).trans rfl
      have HC := Lib.hid (fun W => xtwoE_any o v0 v1 W HOP.out.1 HOP.out.2 (HVF.out v0 (by simp)) (HVF.out v1 (by simp)))
      have HR : Hid (eTwo o v0 v1 = xFin o ANS) := Lib.hid (by
        rw [← HX.out]
        unfold xFin
        rw [if_neg (by simp), if_neg (by have := HOP.out; omega), if_neg (by have := HOP.out; omega)]
        rfl)
      obtain ⟨q, hq⟩ : ∃ q, eTwo o v0 v1 = q := ⟨_, rfl⟩
      rw [hq] at HC HR
      obtain ⟨q1, q2⟩ := q
      clear hq
      go_wp2_with fail
      go_quiet ((go_at_call 54; exact Calls.quiet_of_same (HC.out _)))
      go_wp2_with fail
      go_ret2
      exact ⟨by rw [← HR.out]; first | done | rfl, below_drewN (HAL.out.trans (HBL.out.mono HAL.out.size)) _⟩

theorem xreckon_any (env : List Cel) (EA : Option Addr) (ec : Nat) (hle : env.length ≤ ec) (hf : ∀ c, c ∈ env → Fits c.n) (N : Nat) : ∀ (e : Ex) (A : Option Addr) (c : Nat) (w : World), SizeOf.sizeOf e < N → exK.Row [] w A e.kids → e.kids.length ≤ c → ExOk e → ExSh e → celK.Row [] w EA env →
    Calls Tryd.prog 33 #[exV e A c, .slice EA env.length ec] w (ReckPost (eReck env e) w) := by
  induction N with
  | zero => intro e A c w h; omega
  | succ N ih =>
    intro e A c w hN hr hlc hk hs he
    cases hs with
    | leaf h h2 =>
      subst h2
      exact xreckon_leaf _ _ _ A c env EA ec w h he hle
    | @node op n nm ks h1 h2 h3 h4 =>
      have hsz : ∀ x, x ∈ ks → SizeOf.sizeOf x < N := fun x hx => by
        have := List.sizeOf_lt_of_mem hx
        simp at hN
        omega
      have hlc : ks.length ≤ c := hlc
      have hr : exK.Row [] w A ks := hr
      have hfit : ∀ k, k ∈ ks → Fits (eReck env k).1 := fun k hk' => eReck_fits hf _ k (Nat.lt_succ_self _) (hk.kids k hk')
      have hih : ∀ (j : Nat) (hj : j < ks.length) (A' : Option Addr) (c' : Nat) (W : World), exK.Row [] W A' ks[j].kids → ks[j].kids.length ≤ c' → celK.Row [] W EA env → Calls Tryd.prog 33 #[exV ks[j] A' c', .slice EA env.length ec] W (ReckPost (eReck env ks[j]) W) :=
        fun j hj A' c' W hr' hl' he' => ih _ A' c' W (hsz _ (List.getElem_mem hj)) hr' hl' (hk.kids _ (List.getElem_mem hj)) (h4 _ (List.getElem_mem hj)) he'
      by_cases e2 : op = 2
      · subst e2
        exact xreckon_neg n nm ks A c env EA ec w h3 he hr hlc hfit hih
      · by_cases e3 : op = 3
        · subst e3
          exact xreckon_not n nm ks A c env EA ec w h3 he hr hlc hfit hih
        · exact xreckon_two op n nm ks A c env EA ec w (by omega) h2 (h3.trans (if_neg (by omega))) he hr hlc hfit hih

set_option maxHeartbeats 2000000 in
theorem xeval_any (env : List Cel) (EA : Option Addr) (ec : Nat) (e : Ex) (A : Option Addr) (c : Nat) (w : World) (hle : env.length ≤ ec) (hf : ∀ c, c ∈ env → Fits c.n) (hr : exK.Row [] w A e.kids) (hlc : e.kids.length ≤ c) (hk : ExOk e) (hn : ExN e) (he : celK.Row [] w EA env) :
    Calls Tryd.prog 21 #[exV e A c, .slice EA env.length ec] w (ReckPost (eEval e env) w) := by
  have HM := Lib.hid (fun W h => xmay_any e A c W h hlc hn)
  have HAL := Lib.hid (Same.alloc (Same.refl [] w) (.cells #[.int .i64 e.op, .int .i64 e.n, .string e.name, .slice A e.kids.length c] 25))
  have HBOX := Lib.hid (heap_alloc_new w (.cells #[.int .i64 e.op, .int .i64 e.n, .string e.name, .slice A e.kids.length c] 25))
  have HX : Hid (eEval e env = if eMay e then eReck env e else (0, 1)) := rfl
  have HR := Lib.hid hr
  have HE := Lib.hid he
  cases hb : eMay e
  · rw [hb] at HM HX
    clear hr he
    go_enter Tryd.func21, Tryd.ntmps21
    go_wp2_with (go_at_call 32; refine (HM.out _ (HR.out.keep HAL.out)).mono ?_; rintro r w2 ⟨rfl, hb2⟩)
    go_ret2
    exact ⟨by rw [HX.out]; rfl, HAL.out.below.trans (hb2.mono (by simp))⟩
  · have HRK := Lib.hid (fun W hr he => xreckon_any env EA ec hle hf (SizeOf.sizeOf e + 1) e A c W (by omega) hr hlc hk (sh_of_may hb) he)
    rw [hb] at HM HX
    unfold ReckPost at HRK
    clear hr he
    go_enter Tryd.func21, Tryd.ntmps21
    go_wp2_with fail
    refine (HM.out _ (HR.out.keep HAL.out)).mono ?_
    rintro r w2 ⟨rfl, hb2⟩
    have hbx := (hb2.block w.heap.size (by simp)).trans HBOX.out
    have q0 := (blk_cell hbx 0).trans rfl
    have q1 := (blk_cell hbx 1).trans rfl
    have q2 := (blk_cell hbx 2).trans rfl
    have q3 := (blk_cell hbx 3).trans rfl
    have HS2 := Lib.hid (HAL.out.below_ hb2)
    clear hb2 hbx
    go_wp2_with (go_at_call 33; refine (HRK.out _ (HR.out.keep HS2.out) (HE.out.keep HS2.out)).mono ?_; rintro r w3 ⟨rfl, hb3⟩)
    go_ret2
    exact ⟨by rw [HX.out]; rfl, HS2.out.below.trans (hb3.mono HS2.out.size)⟩
end Go.Proofs.YtgaiheojlmebaaaDoor
