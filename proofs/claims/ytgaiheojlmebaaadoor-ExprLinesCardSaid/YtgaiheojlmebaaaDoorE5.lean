/- Walks: a name's cell. -/
import Derived.Test.YtgaiheojlmebaaaDoorE4
namespace Go.Proofs.YtgaiheojlmebaaaDoor
open Go Go.RowKit Go.Lib

/-- Where the first cell of a name stands; below 0: there is none. -/
def fiF (name : ByteArray) : Int → List Cel → Int
  | _, [] => -1
  | j, c :: cs => if seq c.name name then j else fiF name (j + 1) cs
/-- A name's number. -/
def cellP (name : ByteArray) : List Cel → Int × Bool
  | [] => (0, false)
  | c :: cs => if seq c.name name then (c.n, true) else cellP name cs
theorem fiF_cell (name : ByteArray) : ∀ (l : List Cel) (j : Int), 0 ≤ j → (fiF name j l = -1 ∧ cellP name l = (0, false)) ∨ (∃ k : Nat, ∃ h : k < l.length, fiF name j l = j + k ∧ cellP name l = (l[k].n, true))
  | [], j, _ => .inl ⟨rfl, rfl⟩
  | c :: cs, j, hj => by
    simp only [fiF, cellP]
    by_cases h : seq c.name name = true
    · rw [if_pos h, if_pos h]
      exact .inr ⟨0, by simp, by simp, rfl⟩
    · rw [if_neg h, if_neg h]
      rcases fiF_cell name cs (j + 1) (by omega) with ⟨h1, h2⟩ | ⟨k, hk, h1, h2⟩
      · exact .inl ⟨h1, h2⟩
      · exact .inr ⟨k + 1, by simp; omega, by rw [h1]; omega, h2⟩

theorem cel_some {M : List Nat} {w : World} {ad : Addr} {ks : List Cel} (h : celK.Row M w (some ad) ks) (k : Nat) (hk : k < ks.length) :
    w.cell? (ad.add (k * 2)) = some (.string ks[k].name) ∧ w.cell? ⟨(ad.add (k * 2)).block, (ad.add (k * 2)).off + 1, none⟩ = some (.int .i64 ks[k].n) := by
  obtain ⟨ad', e, h1, h2, _⟩ := cel_at h k hk
  injection e with e
  subst e
  exact ⟨h1, h2⟩

set_option maxHeartbeats 1000000 in
theorem cell1_any (nm name : ByteArray) (n : Int) (B : Nat) (w : World) (hc : w.cell? ⟨B, 0, none⟩ = some (.string name)) :
    Calls Tryd.prog 82 #[.agg #[.string nm, .int .i64 n], .pointer (some ⟨B, 0, none⟩)] w fun r w' => r = .returned (.bool (seq nm name)) ∧ Below w.heap.size w w' := by
  have hlt := World.block_lt_of_cell? w _ hc
  go_enter Tryd.func82, Tryd.ntmps82
  go_wp2_with fail
  go_ret
  exact ⟨ret_bool (by unfold seq; rw [Lib.toList_data, Lib.toList_data]), (Below.refl _ _).alloc (Nat.le_refl _) _⟩

set_option maxHeartbeats 2000000 in
set_option maxRecDepth 100000 in
theorem indexFunc_any (env : List Cel) (A : Option Addr) (c : Nat) (name : ByteArray) (B : Nat) (w : World) (hc : w.cell? ⟨B, 0, none⟩ = some (.string name)) (hr : celK.Row [] w A env) (hlc : env.length ≤ c) :
    Calls Tryd.prog 81 #[.slice A env.length c, .func (.func 82) #[] #[.pointer (some ⟨B, 0, none⟩)]] w fun r w' => r = .returned (.int .i64 (fiF name 0 env)) ∧ Below w.heap.size w w' := by
  have hm := hr.1
  obtain ⟨ANS, hANS⟩ : ∃ ANS, fiF name 0 env = ANS := ⟨_, rfl⟩
  rw [hANS]
  have HANS := Lib.hid hANS
  have HC := Lib.hid hc
  have HROW := Lib.hid hr
  have eg : ∀ args w, (callFunc 82 args).run Tryd.prog w = .ok (.enter 82 args) w := enters_of Tryd.func82 (by kernel_rfl) rfl
  have hlcz : (env.length : Int) ≤ c := by omega
  clear hr hANS hc
  go_enter Tryd.func81, Tryd.ntmps81
  go_wp2_with fail
  go_loopg [5, 8] (env.length + 1) (fun k _ s8 w' => ∃ j : Nat, s8 = .int .i64 j ∧ j ≤ env.length ∧ env.length - j < k ∧ Below w.heap.size w w' ∧ fiF name j (env.drop j) = ANS)
  case atStart => exact ⟨0, rfl, by omega, by omega, Below.refl _ _, HANS.out⟩
  case round =>
    obtain ⟨j, rfl, hj, hjk, hbl, hans⟩ := hrel
    obtain ⟨gk, rfl⟩ : ∃ k, gk = k + 1 := ⟨gk - 1, by omega⟩
    have HBL := Lib.hid hbl
    have HA := Lib.hid hans
    clear hans
    by_cases hlt : j < env.length
    · have hltz : (j : Int) < env.length := by omega
      have hrow : celK.Row [] wr A env := HROW.out.keep (Same.of_below hbl)
      obtain ⟨ad, rfl⟩ : ∃ ad, A = some ad := by
        obtain ⟨ad, e, _⟩ := hrow.2 (by omega)
        exact ⟨ad, e⟩
      obtain ⟨x0, x1⟩ := cel_some hrow j hlt
      have hc2 : wr.cell? ⟨B, 0, none⟩ = some (.string name) := (hbl.cell (p := ⟨B, 0, none⟩) (World.block_lt_of_cell? w _ HC.out)).trans HC.out
      have HC2 := Lib.hid hc2
      obtain ⟨b, hb⟩ : ∃ b, seq env[j].name name = b := ⟨_, rfl⟩
      have HCALL := Lib.hid (cell1_any env[j].name name env[j].n B wr hc2)
      have h := HA.out
      rw [drop_cons env j hlt, fiF, hb] at h
      rw [hb] at HCALL
      have HE := Lib.hid h
      clear h hb hc2 hrow hbl
      cases b
      · go_wp2_with fail
        refine HCALL.out.mono ?_
        rintro r w2 ⟨rfl, hb2⟩
        have HB2 := Lib.hid (HBL.out.trans (hb2.mono HBL.out.size))
        clear hb2
        go_wp2_with fail
        go_roundg gk
        case measure => omega
        case rel => exact ⟨j + 1, by go_num, by omega, by omega, HB2.out, by have h := HE.out; simpa using h⟩
      · go_wp2_with fail
        refine HCALL.out.mono ?_
        rintro r w2 ⟨rfl, hb2⟩
        have HB2 := Lib.hid (HBL.out.trans (hb2.mono HBL.out.size))
        clear hb2
        go_wp2_with fail
        go_ret
        exact ⟨ret_int (by have h := HE.out; simpa using h), HB2.out⟩
    · have hge : (env.length : Int) ≤ j := by omega
      clear hbl
      go_wp2_with fail
      go_ret
      refine ⟨ret_int ?_, HBL.out⟩
      have h := HA.out
      rw [List.drop_of_length_le (by omega)] at h
      exact h

set_option maxHeartbeats 2000000 in
theorem cell_any (env : List Cel) (A : Option Addr) (c : Nat) (name : ByteArray) (w : World) (hr : celK.Row [] w A env) (hlc : env.length ≤ c) :
    Calls Tryd.prog 48 #[.slice A env.length c, .string name] w fun r w' => r = .returned (.tuple #[.int .i64 (cellP name env).1, .bool (cellP name env).2]) ∧ Below w.heap.size w w' := by
  have HROW := Lib.hid hr
  have HI := Lib.hid (fun W hc hr => indexFunc_any env A c name w.heap.size W hc hr hlc)
  have hlcz : (env.length : Int) ≤ c := by omega
  rcases fiF_cell name env 0 (by omega) with ⟨h1, h2⟩ | ⟨k, hk, h1, h2⟩
  · rw [h2]
    rw [h1] at HI
    clear h1 h2 hr
    go_enter Tryd.func48, Tryd.ntmps48
    go_wp2_with (go_at_call 81; refine (HI.out _ (by simp) (HROW.out.keep ((Same.refl [] w).alloc _))).mono ?_; rintro r w2 ⟨rfl, hb2⟩)
    go_ret2
    exact ⟨rfl, ((Below.refl _ _).alloc (Nat.le_refl _) _).trans (hb2.mono (by simp))⟩
  · rw [h2]
    rw [h1] at HI
    obtain ⟨ad, rfl⟩ : ∃ ad, A = some ad := by
      obtain ⟨ad, e, _⟩ := hr.2 (by omega)
      exact ⟨ad, e⟩
    have hkz : (k : Int) < env.length := by omega
    have hz0 : ((0 : Int) + (k : Int)) = k := by omega
    rw [hz0] at HI
    obtain ⟨x0, x1⟩ := cel_some hr k hk
    have hlt := World.block_lt_of_cell? w _ x1
    have HX1 := Lib.hid x1
    clear h1 h2 hr x0 x1 hz0
    go_enter Tryd.func48, Tryd.ntmps48
    go_wp2_with fail
    refine (HI.out _ (by simp) (HROW.out.keep ((Same.refl [] w).alloc _))).mono ?_
    rintro r w2 ⟨rfl, hb2⟩
    have hb3 := ((Below.refl w.heap.size w).alloc (Nat.le_refl _) (.cells #[.string name] 9)).trans (hb2.mono (by simp))
    have x2 := (hb3.cell (p := ⟨(ad.add (k * 2)).block, (ad.add (k * 2)).off + 1, none⟩) hlt).trans HX1.out
    have HB3 := Lib.hid hb3
    clear hb2 hb3
    go_wp2_with fail
    go_ret2
    exact ⟨rfl, HB3.out⟩
end Go.Proofs.YtgaiheojlmebaaaDoor
