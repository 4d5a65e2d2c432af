/- Walks: wrapped, tokens, May. -/
import Derived.Test.YtgcfjkfipkfijaaGreatDoorE1
import Derived.Test.YtgcfjkfipkfijaaGreatDoorPure5
import Derived.Test.YtgcfjkfipkfijaaGreatDoorL5
import Derived.Test.YtgcfjkfipkfijaaGreatDoorC1
import Derived.Test.YtgcfjkfipkfijaaGreatDoorOwn
import Derived.Deep.LoopGhost
namespace Go.Proofs.YtgcfjkfipkfijaaGreatDoor
open Go Go.RowKit Go.Lib

/-- A tree as a value. -/
abbrev exV (e : Ex) (A : Option Addr) (c : Nat) : Value := .agg #[.int .i64 e.op, .int .i64 e.n, .string e.name, .slice A e.kids.length c]
theorem line_q (op : Int) (w : World) : Calls Tryz.prog 172 #[.int .i64 op] w fun e w' => e = .returned (.int .i64 (eLine op)) ∧ w' = w := (line_any op w).mono (by rintro e w' ⟨rfl, rfl⟩; exact ⟨rfl, rfl⟩)
set_option maxHeartbeats 1000000 in
theorem wrapped_nat (e : Ex) (A : Option Addr) (c i : Nat) (w : World) (hr : exK.Row [] w A e.kids) (hi : i < e.kids.length) (_hlc : e.kids.length ≤ c) :
    Calls Tryz.prog 168 #[exV e A c, .int .i64 i] w fun r w' => r = .returned (.bool (eWrapped e.op e.kids[i].op i)) ∧ Below w.heap.size w w' := by
  obtain ⟨ad, A', c', hA, h0, h1, h2, h3, _, _, _⟩ := ex_at hr i hi
  subst hA
  obtain ⟨o1, ho1⟩ : ∃ o, e.op = o := ⟨_, rfl⟩
  obtain ⟨o2, ho2⟩ : ∃ o, e.kids[i].op = o := ⟨_, rfl⟩
  obtain ⟨L, hL⟩ : ∃ L, e.kids.length = L := ⟨_, rfl⟩
  have HX : Hid (eWrapped o1 o2 i = (decide (eLine o2 < eLine o1) || (eLine o2 == eLine o1 && decide (eLine o1 < 6) && ((i : Int) == 1 || eLine o1 == 3)))) := rfl
  unfold exV
  rw [ho2] at h0
  rw [ho1, ho2, hL]
  rw [hL] at hi
  have hlt := World.block_lt_of_cell? w _ h0
  have hz : (i : Int) < L := by omega
  have hz0 : (0 : Int) ≤ i := by omega
  clear h1 h2 h3 hr ho1 ho2 hL
  go_enter Tryz.func168, Tryz.ntmps168
  go_wp2_with fail
  go_quiet ((go_at_call 172; exact Calls.quiet_of_same (line_q _ _)))
  go_wp2_with fail
  all_goals
    go_ret
    refine ⟨ret_bool ?_, below_drewN ((Below.refl _ _).alloc (Nat.le_refl _) _) _⟩
    rw [HX.out]
    generalize eLine o1 = l1 at *
    generalize eLine o2 = l2 at *
    clear HX
    first
    | (simp [*]; done)
    | (simp [*]; omega)
theorem wrapped_any (e : Ex) (A : Option Addr) (c : Nat) (i : Int) (w : World) (hr : exK.Row [] w A e.kids) (h0 : 0 ≤ i) (hi : i < e.kids.length) (hlc : e.kids.length ≤ c) :
    Calls Tryz.prog 168 #[exV e A c, .int .i64 i] w fun r w' => r = .returned (.bool (eWrapped e.op (e.kids[i.toNat]'(by omega)).op i)) ∧ Below w.heap.size w w' := by
  obtain ⟨k, rfl⟩ := Int.eq_ofNat_of_zero_le h0
  exact wrapped_nat e A c k w hr (by omega) hlc
theorem eTok_leaf_bad {e : Ex} {most : Int} (h : e.op = 0 ∨ e.op = 1) (h2 : 0 < e.kids.length ∨ e.op = 0 ∧ (e.n < 0 ∨ e.name.size ≠ 0) ∨ e.op = 1 ∧ (e.n ≠ 0 ∨ nameB e.name = false)) : eTok e most = -1 := by
  rw [e.eta, eTok, if_pos h, if_pos h2]
theorem eTok_leaf {e : Ex} {most : Int} (h : e.op = 0 ∨ e.op = 1) (h2 : ¬ (0 < e.kids.length ∨ e.op = 0 ∧ (e.n < 0 ∨ e.name.size ≠ 0) ∨ e.op = 1 ∧ (e.n ≠ 0 ∨ nameB e.name = false))) : eTok e most = 1 := by
  rw [e.eta, eTok, if_pos h, if_neg h2]
theorem eTok_bad {e : Ex} {most : Int} (h : ¬ (e.op = 0 ∨ e.op = 1)) (h2 : e.op < 0 ∨ 16 < e.op ∨ e.n ≠ 0 ∨ e.name.size ≠ 0 ∨ e.kids.length ≠ eParts e.op ∨ most < 1) : eTok e most = -1 := by
  rw [e.eta, eTok, if_neg h, if_pos h2]
theorem eTok_node {e : Ex} {most : Int} (h : ¬ (e.op = 0 ∨ e.op = 1)) (h2 : ¬ (e.op < 0 ∨ 16 < e.op ∨ e.n ≠ 0 ∨ e.name.size ≠ 0 ∨ e.kids.length ≠ eParts e.op ∨ most < 1)) : eTok e most = eToks e.op e.kids 0 1 most := by
  conv => lhs; rw [e.eta]
  rw [eTok, if_neg h, if_neg h2]
theorem isEmpty_of {s : ByteArray} (h : s.size ≠ 0) : s.toList.isEmpty = false := by have := ne_empty s; rw [decide_eq_true h] at this; simpa using this
theorem isEmpty_of' {s : ByteArray} (h : s.size = 0) : s.toList.isEmpty = true := by have := ne_empty s; rw [decide_eq_false (by omega)] at this; simpa using this
set_option maxHeartbeats 4000000 in
set_option maxRecDepth 100000 in
theorem tokens_leaf (e : Ex) (A : Option Addr) (c : Nat) (most : Int) (w : World) (hop : e.op = 0 ∨ e.op = 1) (hk : ExOk e) (hT : Tabs w) :
    Calls Tryz.prog 158 #[exV e A c, .int .i64 most] w fun r w' => r = .returned (.int .i64 (eTok e most)) ∧ Below w.heap.size w w' := by
  have hnl := hk.name
  have hX1 := eTok_leaf_bad (e := e) (most := most) hop
  have hX2 := eTok_leaf (e := e) (most := most) hop
  unfold exV
  obtain ⟨L, hL⟩ : ∃ L, e.kids.length = L := ⟨_, rfl⟩
  obtain ⟨o, ho⟩ : ∃ o, e.op = o := ⟨_, rfl⟩
  obtain ⟨n, hn⟩ : ∃ o, e.n = o := ⟨_, rfl⟩
  obtain ⟨nm, hnm⟩ : ∃ o, e.name = o := ⟨_, rfl⟩
  rw [hL, ho, hn, hnm] at hX1 hX2 ⊢
  rw [hnm] at hnl
  rw [ho] at hop
  clear hL ho hn hnm hk
  have HX1 := Lib.hid hX1
  have HX2 := Lib.hid hX2
  have HN := Lib.hid (fun W => name_any nm W (by omega))
  have HT := Lib.hid hT
  clear hX1 hX2 hT
  by_cases h0 : 0 < L
  · have h0z : (0 : Int) < L := by omega
    have H := Lib.hid (HX1.out (.inl h0))
    clear h0
    rcases hop with rfl | rfl
    all_goals
      go_enter Tryz.func158, Tryz.ntmps158
      go_wp2_with fail
      go_ret
      exact ⟨ret_int H.out.symm, (Below.refl _ _).alloc (Nat.le_refl _) _⟩
  · obtain rfl : L = 0 := by omega
    clear h0
    rcases hop with rfl | rfl
    · by_cases hn : n < 0
      · have H := Lib.hid (HX1.out (.inr (.inl ⟨rfl, .inl hn⟩)))
        go_enter Tryz.func158, Tryz.ntmps158
        go_wp2_with fail
        go_ret
        exact ⟨ret_int H.out.symm, (Below.refl _ _).alloc (Nat.le_refl _) _⟩
      · have hn' : 0 ≤ n := by omega
        by_cases hm : nm.size = 0
        · have he := isEmpty_of' hm
          have H := Lib.hid (HX2.out (by omega))
          clear hn hm
          go_enter Tryz.func158, Tryz.ntmps158
          go_wp2_with fail
          go_ret
          exact ⟨ret_int H.out.symm, (Below.refl _ _).alloc (Nat.le_refl _) _⟩
        · have he := isEmpty_of hm
          have H := Lib.hid (HX1.out (.inr (.inl ⟨rfl, .inr hm⟩)))
          clear hn hm
          go_enter Tryz.func158, Tryz.ntmps158
          go_wp2_with fail
          go_ret
          exact ⟨ret_int H.out.symm, (Below.refl _ _).alloc (Nat.le_refl _) _⟩
    · by_cases hn : n = 0
      · subst hn
        have hbz : ∀ W, (w.alloc W).heap.size = (w.alloc W).heap.size := fun _ => rfl
        cases hB : nameB nm
        · have H := Lib.hid (HX1.out (.inr (.inr ⟨rfl, .inr hB⟩)))
          rw [hB] at HN
          clear hB
          go_enter Tryz.func158, Tryz.ntmps158
          go_wp2_with (go_at_call 167; refine (HN.out _ (HT.out.alloc _)).mono ?_; rintro e w1 ⟨rfl, hb1⟩)
          go_ret
          exact ⟨ret_int H.out.symm, ((Below.refl _ _).alloc (Nat.le_refl _) _).trans (hb1.mono (by simp))⟩
        · have H := Lib.hid (HX2.out (by simp [hB]))
          rw [hB] at HN
          clear hB
          go_enter Tryz.func158, Tryz.ntmps158
          go_wp2_with (go_at_call 167; refine (HN.out _ (HT.out.alloc _)).mono ?_; rintro e w1 ⟨rfl, hb1⟩)
          go_ret
          exact ⟨ret_int H.out.symm, ((Below.refl _ _).alloc (Nat.le_refl _) _).trans (hb1.mono (by simp))⟩
      · have hnb : (n != 0) = true := by rw [bne_iff_ne]; exact hn
        have H := Lib.hid (HX1.out (.inr (.inr ⟨rfl, .inl hn⟩)))
        clear hn
        go_enter Tryz.func158, Tryz.ntmps158
        go_wp2_with fail
        go_ret
        exact ⟨ret_int H.out.symm, (Below.refl _ _).alloc (Nat.le_refl _) _⟩
end Go.Proofs.YtgcfjkfipkfijaaGreatDoor
