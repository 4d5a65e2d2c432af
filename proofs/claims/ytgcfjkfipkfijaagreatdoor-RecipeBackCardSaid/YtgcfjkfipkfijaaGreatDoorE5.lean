/- A walk: tokens, at every tree; May. Walks: a name's cell. -/
import Derived.Test.YtgcfjkfipkfijaaGreatDoorE3
/-! A walk: tokens, at every tree; May. -/
namespace Go.Proofs.YtgcfjkfipkfijaaGreatDoor
open Go Go.RowKit Go.Lib

theorem eToks_nil (op i n most : Int) : eToks op [] i n most = n := rfl
theorem eToks_cons {op i n most : Int} {k : Ex} {ks : List Ex} : eToks op (k :: ks) i n most =
    if eTok k (most - n) < 0 then -1
    else if most < n + eTok k (most - n) + (if eWrapped op k.op i then 2 else 0) then -1
    else eToks op ks (i + 1) (n + eTok k (most - n) + (if eWrapped op k.op i then 2 else 0)) most := by rw [eToks]
theorem drop_cons {α : Type} (l : List α) (j : Nat) (h : j < l.length) : l.drop j = l[j] :: l.drop (j + 1) := by simp
set_option maxHeartbeats 8000000 in
set_option maxRecDepth 100000 in
theorem tokens_node (N : Nat)
    (ih : ∀ (e : Ex) (A : Option Addr) (c : Nat) (most : Int) (w : World), SizeOf.sizeOf e < N → exK.Row [] w A e.kids → e.kids.length ≤ c → ExOk e → Tabs w → 0 ≤ most → most ≤ 1000 →
      Calls Tryz.prog 158 #[exV e A c, .int .i64 most] w fun r w' => r = .returned (.int .i64 (eTok e most)) ∧ Below w.heap.size w w')
    (o n : Int) (nm : ByteArray) (ks : List Ex) (A : Option Addr) (c : Nat) (most : Int) (w : World) (hN : SizeOf.sizeOf (Ex.mk o n nm ks) ≤ N) (hr : exK.Row [] w A ks) (hlc : ks.length ≤ c)
    (hk : ExOk (.mk o n nm ks)) (hT : Tabs w) (h0 : 0 ≤ most) (hm : most ≤ 1000) (hop : ¬ (o = 0 ∨ o = 1)) (hgood : ¬ (o < 0 ∨ 16 < o ∨ n ≠ 0 ∨ nm.size ≠ 0 ∨ ks.length ≠ eParts o ∨ most < 1)) :
    Calls Tryz.prog 158 #[.agg #[.int .i64 o, .int .i64 n, .string nm, .slice A ks.length c], .int .i64 most] w fun r w' => r = .returned (.int .i64 (eToks o ks 0 1 most)) ∧ Below w.heap.size w w' := by
  have hok : ∀ (j : Nat) (hj : j < ks.length), ExOk ks[j] := fun j hj => hk.kid j hj
  have hsz : ∀ (j : Nat) (hj : j < ks.length), SizeOf.sizeOf ks[j] < N := fun j hj => Nat.lt_of_lt_of_le (sizeOf_kid (e := .mk o n nm ks) j hj) hN
  obtain ⟨P, hP⟩ : ∃ P : Int, (eParts o : Int) = P := ⟨_, rfl⟩
  have hlen : (ks.length : Int) = P := by rw [← hP]; omega
  have hp1 : 1 ≤ ks.length := by
    have : eParts o = 1 ∨ eParts o = 2 := by unfold eParts; split <;> simp
    omega
  have b0 : (o == 0) = false := beqf (fun e => hop (.inl e))
  have b1 : (o == 1) = false := beqf (fun e => hop (.inr e))
  have hc : ((o == 2) = true ∧ P = 1) ∨ ((o == 2) = false ∧ (o == 3) = true ∧ P = 1) ∨ ((o == 2) = false ∧ (o == 3) = false ∧ P = 2) := by
    unfold eParts at hP
    by_cases h2 : o = 2
    · exact .inl ⟨beq_iff_eq.2 h2, by rw [if_pos (.inl h2)] at hP; omega⟩
    · by_cases h3 : o = 3
      · exact .inr (.inl ⟨beqf h2, beq_iff_eq.2 h3, by rw [if_pos (.inr h3)] at hP; omega⟩)
      · exact .inr (.inr ⟨beqf h2, beqf h3, by rw [if_neg (by omega)] at hP; omega⟩)
  have g1 : 0 ≤ o := by omega
  have g2 : o ≤ 16 := by omega
  obtain rfl : n = 0 := by omega
  have g4 : nm.toList.isEmpty = true := isEmpty_of' (by omega)
  have g5 : ((ks.length : Int) != P) = false := bnef hlen
  have g6 : 1 ≤ most := by omega
  have HOK := Lib.hid hok
  have HSZ := Lib.hid hsz
  have HIH := Lib.hid ih
  have HT := Lib.hid hT
  obtain ⟨ad, rfl⟩ : ∃ ad, A = some ad := by
    obtain ⟨ad, e, _⟩ := hr.2 hp1
    exact ⟨ad, e⟩
  have HW : Hid (∀ (W : World) (i : Nat), exK.Row [] W (some ad) ks → (h : i < ks.length) → Calls Tryz.prog 168 #[.agg #[.int .i64 o, .int .i64 0, .string nm, .slice (some ad) ks.length c], .int .i64 i] W fun r w' => r = .returned (.bool (eWrapped o ks[i].op i)) ∧ Below W.heap.size W w') :=
    fun W i hr h => wrapped_nat (.mk o 0 nm ks) (some ad) c i W hr h hlc
  have HROW := Lib.hid hr
  obtain ⟨ANS, hANS⟩ : ∃ ANS, eToks o ks 0 1 most = ANS := ⟨_, rfl⟩
  rw [hANS]
  have HANS := Lib.hid hANS
  have hlcz : (ks.length : Int) ≤ c := by omega
  have hlen2 : (ks.length : Int) ≤ 2 := by omega
  clear hok hsz ih hT hP hlen hr hANS hN hk hgood hop h0
  rcases hc with ⟨b2, rfl⟩ | ⟨b2, b3, rfl⟩ | ⟨b2, b3, rfl⟩
  all_goals
    go_enter Tryz.func158, Tryz.ntmps158
    go_wp2_with fail
    go_loopg [6, 7, 8, 9, 85] (ks.length + 1) (fun k s6 _ _ _ s85 w' => ∃ (j : Nat) (n' : Int), s85 = .int .i64 j ∧ j ≤ ks.length ∧ ks.length - j < k ∧ s6 = .int .i64 n' ∧ 1 ≤ n' ∧ n' ≤ most ∧
      w'.heap[w.heap.size]? = some (.cells #[.int .i64 o, .int .i64 0, .string nm, .slice (some ad) ks.length c] 41 (0, 0)) ∧ Below w.heap.size w w' ∧ eToks o (ks.drop j) j n' most = ANS)
    case atStart => exact ⟨0, 1, rfl, by omega, by omega, rfl, by omega, by omega, heap_alloc_new _ _, (Below.refl _ _).alloc (Nat.le_refl _) _, HANS.out⟩
    case round =>
      obtain ⟨j, n', rfl, hj, hjk, rfl, hn1, hn2, hbx, hbl, hans⟩ := hrel
      obtain ⟨gk, rfl⟩ : ∃ k, gk = k + 1 := ⟨gk - 1, by omega⟩
      have HBX := Lib.hid hbx
      have HBL := Lib.hid hbl
      have HA := Lib.hid hans
      clear hans
      by_cases hlt : j < ks.length
      · have hltz : (j : Int) < ks.length := by omega
        have hrow : exK.Row [] wr (some ad) ks := HROW.out.keep (Same.of_below hbl)
        obtain ⟨A', c', x0, x1, x2, x3, hlc', hrow', _⟩ := ex_some hrow j hlt
        have HROWR := Lib.hid hrow
        have HROWK := Lib.hid hrow'
        obtain ⟨t, ht⟩ : ∃ t, eTok ks[j] (most - n') = t := ⟨_, rfl⟩
        have ht1 := eTok_le ks[j] (most - n')
        have ht2 := eTok_ge ks[j] (most - n')
        have HKID : Hid (∀ W, exK.Row [] W A' ks[j].kids → Tabs W → Calls Tryz.prog 158 #[.agg #[.int .i64 ks[j].op, .int .i64 ks[j].n, .string ks[j].name, .slice A' ks[j].kids.length c'], .int .i64 (most - n')] W fun r w' => r = .returned (.int .i64 t) ∧ Below W.heap.size W w') := fun W hW hTW => by
          rw [← ht]; exact HIH.out ks[j] A' c' (most - n') W (HSZ.out j hlt) hW hlc' (HOK.out j hlt) hTW (by omega) (by omega)
        obtain ⟨b, hb⟩ : ∃ b, eWrapped o ks[j].op j = b := ⟨_, rfl⟩
        have HWR := Lib.hid (fun W h => HW.out W j h hlt)
        have h := HA.out
        rw [drop_cons ks j hlt, eToks_cons, ht] at h
        rw [ht] at ht1 ht2
        rw [hb] at h HWR
        have HE := Lib.hid h
        have hadlt := World.block_lt_of_cell? wr _ x0
        have hkl := blk_lt hbx
        clear h ht hb hrow hrow' hbx hbl
        by_cases htn : t < 0
        · go_wp2_with (go_at_call 158; refine (HKID.out _ (HROWK.out.keep ((Same.refl [] wr).alloc _)) ((HT.out.below HBL.out).alloc _)).mono ?_; rintro e w2 ⟨rfl, hb2⟩)
          go_ret
          refine ⟨ret_int ?_, (HBL.out.alloc HBL.out.size _).trans (hb2.mono (by simp; omega))⟩
          have h := HE.out
          rw [if_pos htn] at h
          exact h
        · have htn' : 0 ≤ t := by omega
          go_wp2_with fail
          refine (HKID.out _ (HROWK.out.keep ((Same.refl [] wr).alloc _)) ((HT.out.below HBL.out).alloc _)).mono ?_
          rintro e w2 ⟨rfl, hb2⟩
          have hbx2 := (hb2.block _ (by simp; omega)).trans ((((Below.refl wr.heap.size wr).alloc (Nat.le_refl _) _).block _ hkl).trans HBX.out)
          have hbl2 := (HBL.out.alloc HBL.out.size _).trans (hb2.mono (by simp; omega))
          have HROW2 := Lib.hid ((HROWR.out.keep ((Same.refl [] wr).alloc _)).keep (Same.of_below hb2))
          have HBX2 := Lib.hid hbx2
          have HBL2 := Lib.hid hbl2
          have q0 := (blk_cell hbx2 0).trans rfl
          have q1 := (blk_cell hbx2 1).trans rfl
          have q2 := (blk_cell hbx2 2).trans rfl
          have q3 := (blk_cell hbx2 3).trans rfl
          clear hb2 hbx2 hbl2
          go_wp2_with fail
          refine (HWR.out _ HROW2.out).mono ?_
          rintro e w3 ⟨rfl, hb3⟩
          have HBX3 := Lib.hid ((hb3.block _ (blk_lt HBX2.out)).trans HBX2.out)
          have HBL3 := Lib.hid (HBL2.out.trans (hb3.mono HBL2.out.size))
          have h := HE.out
          rw [if_neg (by omega)] at h
          have HE2 := Lib.hid h
          clear h q0 q1 q2 q3 hb3 HE
          cases b
          · have h := HE2.out
            simp only [Bool.false_eq_true, if_false, Int.add_zero] at h
            have HE3 := Lib.hid h
            clear h
            by_cases hgt : most < n' + t
            · go_wp2_with fail
              go_ret
              refine ⟨ret_int ?_, HBL3.out⟩
              have h := HE3.out
              rw [if_pos hgt] at h
              exact h
            · have hgt' : n' + t ≤ most := by omega
              have h := HE3.out
              rw [if_neg hgt] at h
              have HE4 := Lib.hid h
              clear h hgt
              go_wp2_with fail
              go_roundg gk
              case measure => omega
              case rel => exact ⟨j + 1, n' + t, by go_num, by omega, by omega, rfl, by omega, by omega, HBX3.out, HBL3.out, HE4.out⟩
          · have h := HE2.out
            simp only [if_true] at h
            have HE3 := Lib.hid h
            clear h
            by_cases hgt : most < n' + t + 2
            · go_wp2_with fail
              go_ret
              refine ⟨ret_int ?_, HBL3.out⟩
              have h := HE3.out
              rw [if_pos hgt] at h
              exact h
            · have hgt' : n' + t + 2 ≤ most := by omega
              have h := HE3.out
              rw [if_neg hgt] at h
              have HE4 := Lib.hid h
              clear h hgt
              go_wp2_with fail
              go_roundg gk
              case measure => omega
              case rel => exact ⟨j + 1, n' + t + 2, by go_num, by omega, by omega, rfl, by omega, by omega, HBX3.out, HBL3.out, HE4.out⟩
      · have hge : (ks.length : Int) ≤ j := by omega
        clear hbx hbl
        go_wp2_with fail
        go_ret
        refine ⟨ret_int ?_, HBL.out⟩
        have h := HA.out
        rw [List.drop_of_length_le (by omega), eToks_nil] at h
        exact h
theorem tokens_any (N : Nat) : ∀ (e : Ex) (A : Option Addr) (c : Nat) (most : Int) (w : World), SizeOf.sizeOf e < N → exK.Row [] w A e.kids → e.kids.length ≤ c → ExOk e → Tabs w → 0 ≤ most → most ≤ 1000 →
      Calls Tryz.prog 158 #[exV e A c, .int .i64 most] w fun r w' => r = .returned (.int .i64 (eTok e most)) ∧ Below w.heap.size w w' := by
  induction N with
  | zero => intro e A c most w h; omega
  | succ N ih =>
    intro e A c most w hN hr hlc hk hT h0 hm
    by_cases hop : e.op = 0 ∨ e.op = 1
    · exact tokens_leaf e A c most w hop hk hT
    · by_cases hb : e.op < 0 ∨ 16 < e.op ∨ e.n ≠ 0 ∨ e.name.size ≠ 0 ∨ e.kids.length ≠ eParts e.op ∨ most < 1
      · rw [eTok_bad hop hb]
        exact tokens_bad e.op e.n e.name e.kids A c most w hop hb
      · rw [eTok_node hop hb]
        obtain ⟨o, n, nm, ks⟩ := e
        exact tokens_node N ih o n nm ks A c most w (by omega) hr hlc hk hT h0 hm hop hb
set_option maxHeartbeats 1000000 in
theorem may_any (e : Ex) (A : Option Addr) (c : Nat) (w : World) (hr : exK.Row [] w A e.kids) (hlc : e.kids.length ≤ c) (hk : ExOk e) (hT : Tabs w) :
    Calls Tryz.prog 140 #[exV e A c] w fun r w' => r = .returned (.bool (eMay e)) ∧ Below w.heap.size w w' := by
  have HC := Lib.hid (fun W (h : exK.Row [] W A e.kids) (hT : Tabs W) => tokens_any (SizeOf.sizeOf e + 1) e A c 64 W (by omega) h hlc hk hT (by omega) (by omega))
  have HX : Hid (eMay e = (decide (0 < eTok e 64) && decide (eTok e 64 ≤ 64))) := rfl
  obtain ⟨t, ht⟩ : ∃ t, eTok e 64 = t := ⟨_, rfl⟩
  rw [ht] at HC HX
  clear ht
  have HR := Lib.hid (hr.keep ((Same.refl [] w).alloc (.cells #[.int .i64 e.op, .int .i64 e.n, .string e.name, .slice A e.kids.length c] 41)))
  have HT := Lib.hid hT
  clear hr hT
  go_enter Tryz.func140, Tryz.ntmps140
  go_wp2_with (go_at_call 158; refine (HC.out _ HR.out (HT.out.alloc _)).mono ?_; rintro r w2 ⟨rfl, hb2⟩)
  all_goals
    go_ret
    refine ⟨ret_bool ?_, ((Below.refl _ _).alloc (Nat.le_refl _) _).trans (hb2.mono (by simp))⟩
    rw [HX.out]
    first
    | (simp [*]; done)
    | (simp [*]; omega)
end Go.Proofs.YtgcfjkfipkfijaaGreatDoor
/-! Walks: a name's cell. -/
namespace Go.Proofs.YtgcfjkfipkfijaaGreatDoor
open Go Go.RowKit Go.Lib

/-- Where the first cell of a name stands; below 0: there is none. -/
def fiF (name : ByteArray) : Int → List Cel → Int
  | _, [] => -1
  | j, c :: cs => if seq c.name name then j else fiF name (j + 1) cs
/-- A name's number. -/
def cellP (name : ByteArray) : List Cel → Int × Bool
  | [] => (0, false)
  | c :: cs => if seq c.name name then (c.n, true) else cellP name cs
theorem fiF_cell (name : ByteArray) : ∀ (l : List Cel) (j : Int), 0 ≤ j → (fiF name j l = -1 ∧ cellP name l = (0, false)) ∨ (∃ k : Nat, ∃ h : k < l.length, fiF name j l = j + k ∧ cellP name l = (l[k].n, true))
  | [], j, _ => .inl ⟨rfl, rfl⟩
  | c :: cs, j, hj => by
    simp only [fiF, cellP]
    by_cases h : seq c.name name = true
    · rw [if_pos h, if_pos h]
      exact .inr ⟨0, by simp, by simp, rfl⟩
    · rw [if_neg h, if_neg h]
      rcases fiF_cell name cs (j + 1) (by omega) with ⟨h1, h2⟩ | ⟨k, hk, h1, h2⟩
      · exact .inl ⟨h1, h2⟩
      · exact .inr ⟨k + 1, by simp; omega, by rw [h1]; omega, h2⟩
theorem cel_some {M : List Nat} {w : World} {ad : Addr} {ks : List Cel} (h : celK.Row M w (some ad) ks) (k : Nat) (hk : k < ks.length) :
    w.cell? (ad.add (k * 2)) = some (.string ks[k].name) ∧ w.cell? ⟨(ad.add (k * 2)).block, (ad.add (k * 2)).off + 1, none⟩ = some (.int .i64 ks[k].n) := by
  obtain ⟨ad', e, h1, h2, _⟩ := cel_at h k hk
  injection e with e
  subst e
  exact ⟨h1, h2⟩
end Go.Proofs.YtgcfjkfipkfijaaGreatDoor
