/- A walk: reckon, Eval. -/
import Derived.Test.YtgaiheojlmebaaaGreatDoorPure3
namespace Go.Proofs.YtgaiheojlmebaaaGreatDoor
open Go Go.RowKit Go.Lib

theorem ex_zero {M : List Nat} {w : World} {ad : Addr} {a : Ex} {r : List Ex} (h : exK.Row M w (some ad) (a :: r)) :
    ∃ A' c', w.cell? ad = some (.int .i64 a.op) ∧ w.cell? ⟨ad.block, ad.off + 1, none⟩ = some (.int .i64 a.n) ∧ w.cell? ⟨ad.block, ad.off + 2, none⟩ = some (.string a.name) ∧ w.cell? ⟨ad.block, ad.off + 3, none⟩ = some (.slice A' a.kids.length c') ∧
      a.kids.length ≤ c' ∧ exK.Row M w A' a.kids := by
  obtain ⟨A', c', h0, h1, h2, h3, h4, h5, _⟩ := ex_some h 0 (by simp)
  exact ⟨A', c', h0, h1, h2, h3, h4, h5⟩
theorem ex_one {M : List Nat} {w : World} {ad : Addr} {a b : Ex} {r : List Ex} (h : exK.Row M w (some ad) (a :: b :: r)) :
    ∃ A' c', w.cell? ⟨ad.block, ad.off + 4, none⟩ = some (.int .i64 b.op) ∧ w.cell? ⟨ad.block, ad.off + 4 + 1, none⟩ = some (.int .i64 b.n) ∧ w.cell? ⟨ad.block, ad.off + 4 + 2, none⟩ = some (.string b.name) ∧ w.cell? ⟨ad.block, ad.off + 4 + 3, none⟩ = some (.slice A' b.kids.length c') ∧
      b.kids.length ≤ c' ∧ exK.Row M w A' b.kids := by
  obtain ⟨A', c', h0, h1, h2, h3, h4, h5, _⟩ := ex_some h 1 (by simp)
  exact ⟨A', c', h0, h1, h2, h3, h4, h5⟩
theorem row_some {α : Type} {d : Kind α} {M : List Nat} {w : World} {A : Option Addr} {xs : List α} (h : d.Row M w A xs) (hp : 0 < xs.length) : ∃ ad, A = some ad := by
  obtain ⟨ad, e, _⟩ := h.2 hp
  exact ⟨ad, e⟩

/-- What reckon hands back. -/
def ReckPost (p : Int × Int) (w : World) (r : Ending) (w' : World) : Prop := r = .returned (.tuple #[.int .i64 p.1, .int .i64 p.2]) ∧ Below w.heap.size w w'

set_option maxHeartbeats 4000000 in
set_option maxRecDepth 100000 in
theorem reckon_leaf (o n : Int) (nm : ByteArray) (A : Option Addr) (c : Nat) (env : List Cel) (EA : Option Addr) (ec : Nat) (w : World) (ho : o = 0 ∨ o = 1) (he : celK.Row [] w EA env) (hle : env.length ≤ ec) :
    Calls Tryz.prog 31 #[.agg #[.int .i64 o, .int .i64 n, .string nm, .slice A 0 c], .slice EA env.length ec] w (ReckPost (eReck env (.mk o n nm [])) w) := by
  rcases ho with rfl | rfl
  · have HX : Hid (eReck env (.mk 0 n nm []) = (n, 0)) := by rw [eReck.eq_def]; exact rfl
    go_enter Tryz.func31, Tryz.ntmps31
    go_wp2_with fail
    go_ret2
    exact ⟨by rw [HX.out]; rfl, (Below.refl _ _).alloc (Nat.le_refl _) _⟩
  · have HX : Hid (eReck env (.mk 1 n nm []) = if (cellP nm env).2 then ((cellP nm env).1, 0) else (0, 21)) := by rw [eReck.eq_def]; exact rfl
    have HC := Lib.hid (fun W h => cell_any env EA ec nm W h hle)
    have HE := Lib.hid he
    obtain ⟨p, hp⟩ : ∃ p, cellP nm env = p := ⟨_, rfl⟩
    rw [hp] at HC HX
    obtain ⟨p1, p2⟩ := p
    clear hp he
    cases p2
    all_goals
      go_enter Tryz.func31, Tryz.ntmps31
      go_wp2_with (go_at_call 45; refine (HC.out _ (HE.out.keep ((Same.refl [] w).alloc _))).mono ?_; rintro r w2 ⟨rfl, hb2⟩)
      go_ret2
      exact ⟨by rw [HX.out]; rfl, ((Below.refl _ _).alloc (Nat.le_refl _) _).trans (hb2.mono (by simp))⟩

set_option maxHeartbeats 4000000 in
set_option maxRecDepth 100000 in
theorem reckon_one (o n : Int) (nm : ByteArray) (a : Ex) (A : Option Addr) (c : Nat) (env : List Cel) (EA : Option Addr) (ec : Nat) (w : World) (ho : o = 2 ∨ o = 3) (he : celK.Row [] w EA env) (hr : exK.Row [] w A [a]) (hlc : 1 ≤ c) (hfit : Fits (eReck env a).1)
    (ih : ∀ (A' : Option Addr) (c' : Nat) (W : World), exK.Row [] W A' a.kids → a.kids.length ≤ c' → celK.Row [] W EA env → Calls Tryz.prog 31 #[exV a A' c', .slice EA env.length ec] W (ReckPost (eReck env a) W)) :
    Calls Tryz.prog 31 #[.agg #[.int .i64 o, .int .i64 n, .string nm, .slice A 1 c], .slice EA env.length ec] w (ReckPost (eReck env (.mk o n nm [a])) w) := by
  obtain ⟨ad, rfl⟩ := row_some hr (by simp)
  obtain ⟨A', c', x0, x1, x2, x3, hlc', hrow'⟩ := ex_zero hr
  have HROWK := Lib.hid hrow'
  have HE := Lib.hid he
  have hlt := World.block_lt_of_cell? w _ x0
  have HIH := Lib.hid (fun W h he => ih A' c' W h hlc' he)
  have HX : Hid (eReck env (.mk o n nm [a]) = if o = 0 then (n, 0) else if o = 1 then (if (cellP nm env).2 then ((cellP nm env).1, 0) else (0, 21)) else if (eReck env a).2 ≠ 0 then (0, (eReck env a).2) else if o = 2 then chk (-(eReck env a).1) else (b01 ((eReck env a).1 == 0), 0)) := by rw [eReck.eq_def]; exact rfl
  obtain ⟨p, hp⟩ : ∃ p, eReck env a = p := ⟨_, rfl⟩
  rw [hp] at HIH HX hfit
  obtain ⟨p1, p2⟩ := p
  unfold ReckPost at HIH
  have HM := Lib.hid (minus_any 0 p1)
  rw [Int.zero_sub] at HM
  have HF := Lib.hid hfit
  have hlcz : (1 : Int) ≤ c := by omega
  clear hr hrow' he ih hp hfit
  have HAL := Lib.hid (Same.alloc (Same.refl [] w) (.cells #[.int .i64 o, .int .i64 n, .string nm, .slice (some ad) 1 c] 24))
  have HBOX := Lib.hid (heap_alloc_new w (.cells #[.int .i64 o, .int .i64 n, .string nm, .slice (some ad) 1 c] 24))
  by_cases h2 : p2 = 0
  · subst h2
    have HX2 : Hid (eReck env (.mk o n nm [a]) = if o = 2 then chk (-p1) else (b01 (p1 == 0), 0)) := by rw [HX.out, if_neg (by omega), if_neg (by omega), if_neg (by simp)]; exact rfl
    rcases ho with rfl | rfl
    · go_enter Tryz.func31, Tryz.ntmps31
      go_wp2_with fail
      refine (HIH.out _ (HROWK.out.keep HAL.out) (HE.out.keep HAL.out)).mono ?_
      rintro r w2 ⟨rfl, hb2⟩
      have hbx := (hb2.block w.heap.size (by simp)).trans HBOX.out
      have q0 := (blk_cell hbx 0).trans rfl
      have HB2 := Lib.hid (HAL.out.below.trans (hb2.mono (by simp)))
      clear hb2 hbx
      go_wp2_with (go_at_call 48; refine (HM.out _ ⟨by omega, by omega⟩ HF.out).mono ?_; rintro r w3 ⟨rfl, rfl⟩)
      go_ret2
      exact ⟨by rw [HX2.out]; rfl, HB2.out⟩
    · go_enter Tryz.func31, Tryz.ntmps31
      go_wp2_with fail
      refine (HIH.out _ (HROWK.out.keep HAL.out) (HE.out.keep HAL.out)).mono ?_
      rintro r w2 ⟨rfl, hb2⟩
      have hbx := (hb2.block w.heap.size (by simp)).trans HBOX.out
      have q0 := (blk_cell hbx 0).trans rfl
      have HB2 := Lib.hid (HAL.out.below.trans (hb2.mono (by simp)))
      clear hb2 hbx
      go_wp2_with (go_at_call 49; refine (truth_any _ _).mono ?_; rintro r w3 ⟨rfl, rfl⟩)
      go_ret2
      exact ⟨by rw [HX2.out]; rfl, HB2.out⟩
  · have h2b : (p2 != 0) = true := bnet h2
    have HX2 : Hid (eReck env (.mk o n nm [a]) = (0, p2)) := by rw [HX.out, if_neg (by omega), if_neg (by omega), if_pos h2]; exact rfl
    have o0 : (o == 0) = false := beqf (by omega)
    have o1 : (o == 1) = false := beqf (by omega)
    clear h2 ho
    go_enter Tryz.func31, Tryz.ntmps31
    go_wp2_with fail
    refine (HIH.out _ (HROWK.out.keep HAL.out) (HE.out.keep HAL.out)).mono ?_
    rintro r w2 ⟨rfl, hb2⟩
    have HB2 := Lib.hid (HAL.out.below.trans (hb2.mono (by simp)))
    clear hb2
    go_wp2_with fail
    go_ret2
    exact ⟨by rw [HX2.out]; rfl, HB2.out⟩

set_option maxHeartbeats 4000000 in
set_option maxRecDepth 100000 in
theorem reckon_two (o n : Int) (nm : ByteArray) (a b : Ex) (A : Option Addr) (c : Nat) (env : List Cel) (EA : Option Addr) (ec : Nat) (w : World) (ho4 : 4 ≤ o) (ho16 : o ≤ 16) (he : celK.Row [] w EA env) (hr : exK.Row [] w A [a, b]) (hlc : 2 ≤ c) (hfa : Fits (eReck env a).1) (hfb : Fits (eReck env b).1)
    (ih : ∀ e, e = a ∨ e = b → ∀ (A' : Option Addr) (c' : Nat) (W : World), exK.Row [] W A' e.kids → e.kids.length ≤ c' → celK.Row [] W EA env → Calls Tryz.prog 31 #[exV e A' c', .slice EA env.length ec] W (ReckPost (eReck env e) W)) :
    Calls Tryz.prog 31 #[.agg #[.int .i64 o, .int .i64 n, .string nm, .slice A 2 c], .slice EA env.length ec] w (ReckPost (eReck env (.mk o n nm [a, b])) w) := by
  obtain ⟨ad, rfl⟩ := row_some hr (by simp)
  obtain ⟨A', c', x0, x1, x2, x3, hlc', hrow'⟩ := ex_zero hr
  have HROW := Lib.hid hr
  have HROWK := Lib.hid hrow'
  have HE := Lib.hid he
  have hlt := World.block_lt_of_cell? w _ x0
  have HIH := Lib.hid (fun W h he => ih a (.inl rfl) A' c' W h hlc' he)
  have HIB := Lib.hid (ih b (.inr rfl))
  have HX : Hid (eReck env (.mk o n nm [a, b]) = if o = 0 then (n, 0) else if o = 1 then (if (cellP nm env).2 then ((cellP nm env).1, 0) else (0, 21)) else if (eReck env a).2 ≠ 0 then (0, (eReck env a).2) else if (eReck env b).2 ≠ 0 then (0, (eReck env b).2) else eTwo o (eReck env a).1 (eReck env b).1) := by rw [eReck.eq_def]; exact rfl
  obtain ⟨p, hp⟩ : ∃ p, eReck env a = p := ⟨_, rfl⟩
  obtain ⟨q, hq⟩ : ∃ q, eReck env b = q := ⟨_, rfl⟩
  rw [hp] at HIH HX hfa
  rw [hq] at HIB HX hfb
  obtain ⟨p1, p2⟩ := p
  obtain ⟨q1, q2⟩ := q
  unfold ReckPost at HIH HIB
  have HM := Lib.hid (fun W => two_any o p1 q1 W ho4 ho16 hfa hfb)
  have hlcz : (2 : Int) ≤ c := by omega
  have o0 : (o == 0) = false := beqf (by omega)
  have o1 : (o == 1) = false := beqf (by omega)
  have o2 : (o == 2) = false := beqf (by omega)
  have o3 : (o == 3) = false := beqf (by omega)
  have HX : Hid (eReck env (.mk o n nm [a, b]) = if p2 ≠ 0 then (0, p2) else if q2 ≠ 0 then (0, q2) else eTwo o p1 q1) := by rw [HX.out, if_neg (by omega), if_neg (by omega)]; exact rfl
  clear hr hrow' he ih hp hq hfa hfb ho4 ho16
  have HAL := Lib.hid (Same.alloc (Same.refl [] w) (.cells #[.int .i64 o, .int .i64 n, .string nm, .slice (some ad) 2 c] 24))
  have HBOX := Lib.hid (heap_alloc_new w (.cells #[.int .i64 o, .int .i64 n, .string nm, .slice (some ad) 2 c] 24))
  by_cases h2 : p2 = 0
  · subst h2
    have HX2 : Hid (eReck env (.mk o n nm [a, b]) = if q2 ≠ 0 then (0, q2) else eTwo o p1 q1) := by rw [HX.out, if_neg (by simp)]; exact rfl
    go_enter Tryz.func31, Tryz.ntmps31
    go_wp2_with fail
    refine (HIH.out _ (HROWK.out.keep HAL.out) (HE.out.keep HAL.out)).mono ?_
    rintro r w2 ⟨rfl, hb2⟩
    have hbx := (hb2.block w.heap.size (by simp)).trans HBOX.out
    have q0 := (blk_cell hbx 0).trans rfl
    have q3 := (blk_cell hbx 3).trans rfl
    have hrow2 := (HROW.out.keep HAL.out).keep (Same.of_below hb2)
    have HE2 := Lib.hid ((HE.out.keep HAL.out).keep (Same.of_below hb2))
    obtain ⟨A2, c2, y0, y1, y2, y3, hlc2, hrowb⟩ := ex_one hrow2
    have HROWB := Lib.hid hrowb
    have HBX := Lib.hid hbx
    have HB2 := Lib.hid (HAL.out.below.trans (hb2.mono (by simp)))
    clear hb2 hbx hrow2 hrowb
    by_cases h3 : q2 = 0
    · subst h3
      have HX3 : Hid (eReck env (.mk o n nm [a, b]) = eTwo o p1 q1) := by rw [HX2.out, if_neg (by simp)]; exact rfl
      go_wp2_with fail
      refine (HIB.out A2 c2 _ HROWB.out hlc2 HE2.out).mono ?_
      rintro r w3 ⟨rfl, hb3⟩
      have hbx3 := (hb3.block w.heap.size (blk_lt HBX.out)).trans HBX.out
      have z0 := (blk_cell hbx3 0).trans rfl
      have HB3 := Lib.hid (HB2.out.trans (hb3.mono HB2.out.size))
      clear hb3 hbx3
      go_wp2_with (go_at_call 50; refine (HM.out _).mono ?_; rintro r w4 ⟨rfl, rfl⟩)
      go_ret2
      exact ⟨by rw [HX3.out]; rfl, HB3.out⟩
    · have h3b : (q2 != 0) = true := bnet h3
      have HX3 : Hid (eReck env (.mk o n nm [a, b]) = (0, q2)) := by rw [HX2.out, if_pos h3]; exact rfl
      clear h3
      go_wp2_with fail
      refine (HIB.out A2 c2 _ HROWB.out hlc2 HE2.out).mono ?_
      rintro r w3 ⟨rfl, hb3⟩
      have HB3 := Lib.hid (HB2.out.trans (hb3.mono HB2.out.size))
      clear hb3
      go_wp2_with fail
      go_ret2
      exact ⟨by rw [HX3.out]; rfl, HB3.out⟩
  · have h2b : (p2 != 0) = true := bnet h2
    have HX2 : Hid (eReck env (.mk o n nm [a, b]) = (0, p2)) := by rw [HX.out, if_pos h2]; exact rfl
    clear h2
    go_enter Tryz.func31, Tryz.ntmps31
    go_wp2_with fail
    refine (HIH.out _ (HROWK.out.keep HAL.out) (HE.out.keep HAL.out)).mono ?_
    rintro r w2 ⟨rfl, hb2⟩
    have HB2 := Lib.hid (HAL.out.below.trans (hb2.mono (by simp)))
    clear hb2
    go_wp2_with fail
    go_ret2
    exact ⟨by rw [HX2.out]; rfl, HB2.out⟩

theorem reckon_any (env : List Cel) (EA : Option Addr) (ec : Nat) (hle : env.length ≤ ec) (hf : ∀ c, c ∈ env → Fits c.n) (N : Nat) : ∀ (e : Ex) (A : Option Addr) (c : Nat) (w : World), SizeOf.sizeOf e < N → exK.Row [] w A e.kids → e.kids.length ≤ c → ExOk e → ExSh e → celK.Row [] w EA env →
    Calls Tryz.prog 31 #[exV e A c, .slice EA env.length ec] w (ReckPost (eReck env e) w) := by
  induction N with
  | zero => intro e A c w h; omega
  | succ N ih =>
    intro e A c w hN hr hlc hk hs he
    cases hs with
    | leaf h h2 =>
      subst h2
      exact reckon_leaf _ _ _ A c env EA ec w h he hle
    | @node op n nm ks h1 h2 h3 h4 =>
      have hsz : ∀ x, x ∈ ks → SizeOf.sizeOf x < N := fun x hx => by
        have := List.sizeOf_lt_of_mem hx
        simp at hN
        omega
      have hlc : ks.length ≤ c := hlc
      have hr : exK.Row [] w A ks := hr
      by_cases ho : op = 2 ∨ op = 3
      · have hp : eParts op = 1 := if_pos ho
        obtain ⟨a, rfl⟩ : ∃ a, ks = [a] := List.length_eq_one_iff.1 (h3.trans hp)
        exact reckon_one op n nm a A c env EA ec w ho he hr hlc (eReck_fits hf _ a (Nat.lt_succ_self _) (hk.kids a (by simp [Ex.kids]))) (fun A' c' W hr' hl' he' => ih a A' c' W (hsz a (by simp)) hr' hl' (hk.kids a (by simp [Ex.kids])) (h4 a (by simp)) he')
      · have hp : eParts op = 2 := if_neg ho
        obtain ⟨a, b, rfl⟩ : ∃ a b, ks = [a, b] := by
          have h5 := h3.trans hp
          match ks, h5 with
          | [a, b], _ => exact ⟨a, b, rfl⟩
        exact reckon_two op n nm a b A c env EA ec w (by omega) h2 he hr hlc (eReck_fits hf _ a (Nat.lt_succ_self _) (hk.kids a (by simp [Ex.kids]))) (eReck_fits hf _ b (Nat.lt_succ_self _) (hk.kids b (by simp [Ex.kids])))
          (fun e he0 A' c' W hr' hl' he' => by
            rcases he0 with rfl | rfl
            · exact ih _ A' c' W (hsz _ (by simp)) hr' hl' (hk.kids _ (by simp [Ex.kids])) (h4 _ (by simp)) he'
            · exact ih _ A' c' W (hsz _ (by simp)) hr' hl' (hk.kids _ (by simp [Ex.kids])) (h4 _ (by simp)) he')

set_option maxHeartbeats 2000000 in
theorem eval_any (env : List Cel) (EA : Option Addr) (ec : Nat) (e : Ex) (A : Option Addr) (c : Nat) (w : World) (hle : env.length ≤ ec) (hf : ∀ c, c ∈ env → Fits c.n) (hr : exK.Row [] w A e.kids) (hlc : e.kids.length ≤ c) (hk : ExOk e) (he : celK.Row [] w EA env) (hT : Tabs w) :
    Calls Tryz.prog 17 #[exV e A c, .slice EA env.length ec] w (ReckPost (eEval e env) w) := by
  have HM := Lib.hid (fun W h hT => may_any e A c W h hlc hk hT)
  have HAL := Lib.hid (Same.alloc (Same.refl [] w) (.cells #[.int .i64 e.op, .int .i64 e.n, .string e.name, .slice A e.kids.length c] 24))
  have HBOX := Lib.hid (heap_alloc_new w (.cells #[.int .i64 e.op, .int .i64 e.n, .string e.name, .slice A e.kids.length c] 24))
  have HX : Hid (eEval e env = if eMay e then eReck env e else (0, 1)) := rfl
  have HT := Lib.hid hT
  have HR := Lib.hid hr
  have HE := Lib.hid he
  cases hb : eMay e
  · rw [hb] at HM HX
    clear hr he hT
    go_enter Tryz.func17, Tryz.ntmps17
    go_wp2_with (go_at_call 10; refine (HM.out _ (HR.out.keep HAL.out) (HT.out.alloc _)).mono ?_; rintro r w2 ⟨rfl, hb2⟩)
    go_ret2
    exact ⟨by rw [HX.out]; rfl, HAL.out.below.trans (hb2.mono (by simp))⟩
  · have HRK := Lib.hid (fun W hr he => reckon_any env EA ec hle hf (SizeOf.sizeOf e + 1) e A c W (by omega) hr hlc hk (sh_of_may hb) he)
    rw [hb] at HM HX
    unfold ReckPost at HRK
    clear hr he hT
    go_enter Tryz.func17, Tryz.ntmps17
    go_wp2_with fail
    refine (HM.out _ (HR.out.keep HAL.out) (HT.out.alloc _)).mono ?_
    rintro r w2 ⟨rfl, hb2⟩
    have hbx := (hb2.block w.heap.size (by simp)).trans HBOX.out
    have q0 := (blk_cell hbx 0).trans rfl
    have q1 := (blk_cell hbx 1).trans rfl
    have q2 := (blk_cell hbx 2).trans rfl
    have q3 := (blk_cell hbx 3).trans rfl
    have HS2 := Lib.hid (HAL.out.below_ hb2)
    clear hb2 hbx
    go_wp2_with (go_at_call 31; refine (HRK.out _ (HR.out.keep HS2.out) (HE.out.keep HS2.out)).mono ?_; rintro r w3 ⟨rfl, hb3⟩)
    go_ret2
    exact ⟨by rw [HX.out]; rfl, HS2.out.below.trans (hb3.mono HS2.out.size)⟩
end Go.Proofs.YtgaiheojlmebaaaGreatDoor
