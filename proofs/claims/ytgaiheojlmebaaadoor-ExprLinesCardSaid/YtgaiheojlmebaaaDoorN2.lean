/- The law of lines: the walk. -/
import Derived.Test.YtgaiheojlmebaaaDoorH1
import Derived.Test.YtgaiheojlmebaaaDoorN1
import Derived.Deep.Draws
namespace Go.Proofs.YtgaiheojlmebaaaDoor
open Go Go.RowKit Go.Lib

def sgA : Array Value := #[.string ⟨#[43]⟩, .string ⟨#[45]⟩, .string ⟨#[42]⟩, .string ⟨#[47]⟩, .string ⟨#[37]⟩, .string ⟨#[60]⟩, .string ⟨#[60, 61]⟩, .string ⟨#[62]⟩, .string ⟨#[62, 61]⟩, .string ⟨#[61, 61]⟩, .string ⟨#[33, 61]⟩, .string ⟨#[38]⟩, .string ⟨#[124]⟩]
def lnA : Array Value := #[.int .i64 4, .int .i64 4, .int .i64 5, .int .i64 5, .int .i64 5, .int .i64 3, .int .i64 3, .int .i64 3, .int .i64 3, .int .i64 3, .int .i64 3, .int .i64 2, .int .i64 1]
theorem sgA_at (i : Nat) (h : i < 13) : sgA[i]? = some (.string (sg i)) := by
  have e : sgA = (sgL.map Value.string).toArray := rfl
  rw [e, List.getElem?_toArray, List.getElem?_map]
  unfold sg
  rw [List.getD_eq_getElem?_getD, List.getElem?_eq_getElem (show i < sgL.length from h)]
  rfl
theorem lnA_at (i : Nat) (h : i < 13) : lnA[i]? = some (.int .i64 (ln i)) := by
  have e : lnA = (lnL.map (Value.int .i64)).toArray := rfl
  rw [e, List.getElem?_toArray, List.getElem?_map]
  unfold ln
  rw [List.getD_eq_getElem?_getD, List.getElem?_eq_getElem (show i < lnL.length from h)]
  rfl
theorem sg_len (i : Nat) : (sg i).size ≤ 2 := by
  by_cases h : i < 13
  · have h0 : ((List.range 13).all fun j => decide ((sg j).size ≤ 2)) = true := by kernel_rfl
    exact of_decide_eq_true (List.all_eq_true.1 h0 i (List.mem_range.2 h))
  · unfold sg
    rw [List.getD_eq_getElem?_getD, List.getElem?_eq_none (show sgL.length ≤ i by show 13 ≤ i; omega)]
    decide

set_option maxHeartbeats 8000000 in
set_option maxRecDepth 100000 in
theorem lines_out (i k : Int) (w : World) (hT : Tabs w) (h : i < 0 ∨ (0 ≤ i ∧ 13 ≤ i) ∨ (0 ≤ i ∧ i < 13 ∧ k < 0) ∨ (0 ≤ i ∧ i < 13 ∧ 0 ≤ k ∧ 13 ≤ k)) :
    Calls Tryd.prog 12 #[.int .i64 i, .int .i64 k] w fun r w' => r = .returned (.bool true) ∧ Below w.heap.size w w' := by
  have HT := Lib.hid hT
  clear hT
  rcases h with h | ⟨h, h2⟩ | ⟨h, h2, h3⟩ | ⟨h, h2, h3, h4⟩
  all_goals
    go_enter Tryd.func12, Tryd.ntmps12
    go_wp2_with fail
    refine (awake_any w HT.out).mono ?_
    rintro r w1 ⟨rfl, hb1⟩
    have H1 := Lib.hid hb1
    clear hb1
    go_wp2_with fail
    go_ret
    exact ⟨rfl, (H1.out.alloc H1.out.size _).alloc (by have := H1.out.size; simp; omega) _⟩

/-- What a line's answer is, opened. -/
theorem lineB_cmp {i k : Nat} {e : Ex} {f at_ : Int} (h : lineB i k (e, f, at_) = true) (hc : ln i = 3 ∧ ln k = 3) : f = 11 ∧ at_ = 5 + ((sg i).size : Int) := by
  unfold lineB at h
  rw [if_pos (by rw [hc.1, hc.2]; rfl)] at h
  simpa using h
theorem lineB_tree {i k : Nat} {e : Ex} {f at_ : Int} (h : lineB i k (e, f, at_) = true) (hc : ¬ (ln i = 3 ∧ ln k = 3)) : f = 0 ∧ ∃ x y, e.kids = [x, y] ∧
    (ln k ≤ ln i → e.op = 4 + (k : Int) ∧ x.op = 4 + (i : Int) ∧ y.name = ⟨#[99]⟩) ∧ (ln i < ln k → e.op = 4 + (i : Int) ∧ y.op = 4 + (k : Int) ∧ x.name = ⟨#[97]⟩) := by
  unfold lineB at h
  rw [if_neg (by simpa using hc)] at h
  simp only [Bool.and_eq_true, beq_iff_eq] at h
  obtain ⟨h1, h2⟩ := h
  refine ⟨h1, ?_⟩
  obtain ⟨o, n, s, ks⟩ := e
  match ks, h2 with
  | [x, y], h2 =>
    refine ⟨x, y, rfl, fun hl => ?_, fun hl => ?_⟩
    · simp only [Ex.kids] at h2
      rw [if_pos hl] at h2
      simp only [Bool.and_eq_true, beq_iff_eq] at h2
      exact ⟨h2.1.1, h2.1.2, seq_iff.1 h2.2⟩
    · simp only [Ex.kids] at h2
      rw [if_neg (by omega)] at h2
      simp only [Bool.and_eq_true, beq_iff_eq] at h2
      exact ⟨h2.1.1, h2.1.2, seq_iff.1 h2.2⟩
  | [], h2 => simp [Ex.kids] at h2
  | [_], h2 => simp [Ex.kids] at h2
  | _ :: _ :: _ :: _, h2 => simp [Ex.kids] at h2

set_option maxHeartbeats 16000000 in
set_option maxRecDepth 100000 in
theorem lines_in (i k : Nat) (w : World) (hT : Tabs w) (hi : i < 13) (hk : k < 13) :
    Calls Tryd.prog 12 #[.int .i64 i, .int .i64 k] w fun r w' => r = .returned (.bool true) ∧ Below w.heap.size w w' := by
  have HT := Lib.hid hT
  have hz1 : (i : Int) < 13 := by omega
  have hz2 : (k : Int) < 13 := by omega
  have hz3 : (0 : Int) ≤ i := by omega
  have hz4 : (0 : Int) ≤ k := by omega
  have hat := lines_at i k hi hk
  have HSI := Lib.hid (sgA_at i hi)
  have HSK := Lib.hid (sgA_at k hk)
  have HLI := Lib.hid (lnA_at i hi)
  have HLK := Lib.hid (lnA_at k hk)
  have hs1 := sg_len i
  have hs2 := sg_len k
  have HP := Lib.hid (fun W hT => parse_any (lineT i k) W hT (by unfold lineT; simp only [ByteArray.size_append]; show 2 + _ + 3 + _ + 2 ≤ _; omega))
  unfold lineT at HP
  obtain ⟨⟨e, f, at_⟩, hp⟩ : ∃ p, parseP (lineT i k) = p := ⟨_, rfl⟩
  unfold lineT at hp hat
  rw [hp] at HP hat
  have HCM := Lib.hid (lineB_cmp hat)
  have HTR := Lib.hid (lineB_tree hat)
  obtain ⟨si, hsi⟩ : ∃ s, sg i = s := ⟨_, rfl⟩
  obtain ⟨sk, hsk⟩ : ∃ s, sg k = s := ⟨_, rfl⟩
  obtain ⟨li, hli⟩ : ∃ s, ln i = s := ⟨_, rfl⟩
  obtain ⟨lk, hlk⟩ : ∃ s, ln k = s := ⟨_, rfl⟩
  rw [hsi] at HP HSI HCM hs1
  rw [hsk] at HP HSK hs2
  rw [hli] at HLI HCM HTR
  rw [hlk] at HLK HCM HTR
  have hzs : (si.size : Int) ≤ 2 := by omega
  have e2 : (⟨#[97, 32]⟩ : ByteArray).size = 2 := rfl
  have e3 : (⟨#[32, 98, 32]⟩ : ByteArray).size = 3 := rfl
  have e4 : (⟨#[32, 99]⟩ : ByteArray).size = 2 := rfl
  have c1 : ∀ W, (Op.stringOp .add ⟨#[97, 32]⟩ si).run Tryd.prog W = .ok (.string (⟨#[97, 32]⟩ ++ si)) W := fun W => run_string_add_sum (w := W) _ _ (by omega)
  have c2 : ∀ W, (Op.stringOp .add (⟨#[97, 32]⟩ ++ si) ⟨#[32, 98, 32]⟩).run Tryd.prog W = .ok (.string (⟨#[97, 32]⟩ ++ si ++ ⟨#[32, 98, 32]⟩)) W := fun W => run_string_add_sum (w := W) _ _ (by rw [ByteArray.size_append]; omega)
  have c3 : ∀ W, (Op.stringOp .add (⟨#[97, 32]⟩ ++ si ++ ⟨#[32, 98, 32]⟩) sk).run Tryd.prog W = .ok (.string (⟨#[97, 32]⟩ ++ si ++ ⟨#[32, 98, 32]⟩ ++ sk)) W := fun W => run_string_add_sum (w := W) _ _ (by rw [ByteArray.size_append, ByteArray.size_append]; omega)
  have c4 : ∀ W, (Op.stringOp .add (⟨#[97, 32]⟩ ++ si ++ ⟨#[32, 98, 32]⟩ ++ sk) ⟨#[32, 99]⟩).run Tryd.prog W = .ok (.string (⟨#[97, 32]⟩ ++ si ++ ⟨#[32, 98, 32]⟩ ++ sk ++ ⟨#[32, 99]⟩)) W := fun W => run_string_add_sum (w := W) _ _ (by rw [ByteArray.size_append, ByteArray.size_append, ByteArray.size_append]; omega)
  clear hT hat hp hsi hsk hli hlk hs1 hs2 e2 e3 e4 hi hk
  go_enter Tryd.func12, Tryd.ntmps12
  go_wp2_with fail
  refine (awake_any w HT.out).mono ?_
  rintro r w1 ⟨rfl, hb1⟩
  have H1 := Lib.hid (Hold.mk (HT.out.below hb1) hb1)
  clear hb1
  go_wp2_with fail
  obtain ⟨w3, hw3⟩ : ∃ w', (w1.alloc (.cells sgA 9 (0, 0))).alloc (.cells lnA 3 (0, 0)) = w' := ⟨_, rfl⟩
  have hb3 : Below w1.heap.size w1 w3 := hw3 ▸ ((Below.refl _ _).alloc (Nat.le_refl _) _).alloc (by simp) _
  have hq3 : w3.heap[w1.heap.size]? = some (.cells sgA 9 (0, 0)) := hw3 ▸ (Below.heap_alloc _ _ _ (by simp)).trans (heap_alloc_new _ _)
  have hr3 : w3.heap[w1.heap.size + 1]? = some (.cells lnA 3 (0, 0)) := by
    have h := heap_alloc_new (w1.alloc (.cells sgA 9 (0, 0))) (.cells lnA 3 (0, 0))
    rw [hw3] at h
    simpa using h
  unfold sgA lnA at hw3
  rw [hw3]
  obtain ⟨S, hS⟩ : ∃ S, w1.heap.size = S := ⟨_, rfl⟩
  rw [hS] at hq3 hr3 ⊢
  have H3 := Lib.hid (H1.out.step hb3)
  have Q3 := Lib.hid hq3
  have R3 := Lib.hid hr3
  have hlS := blk_lt Q3.out
  have si3 := (blk_cell Q3.out i).trans HSI.out
  have sk3 := (blk_cell Q3.out k).trans HSK.out
  clear hb3 hq3 hr3 hw3 hS
  go_cut [8, 9, 10] (fun s8 s9 s10 wx => ∃ (Kx : Nat) (B : Option Addr) (d : Nat), s8 = .pointer (some ⟨Kx, 0, none⟩) ∧ s9 = .int .i64 f ∧ s10 = .int .i64 at_ ∧ ExB wx Kx e B d ∧ ExF (fun k => k < w3.heap.size) wx e B d ∧ Below w3.heap.size w3 wx)
  case first =>
    go_region_with (first
      | (refine (HP.out w3 H3.out.tabs).mono ?_; rintro r w4 ⟨B, d, rfl, hx4, hb4⟩; have HX4 := Lib.hid hx4; have HB4 := Lib.hid hb4; clear hx4 hb4)
      | (refine (HP.out w3.drew (H3.out.step ((Below.refl _ _).drew)).tabs).mono ?_; rintro r w4 ⟨B, d, rfl, hx4, hb4⟩; have HX4 := Lib.hid hx4; have HB4 := Lib.hid (show Below w3.heap.size w3 w4 from (Below.refl _ _).drew.trans hb4); clear hx4 hb4)
      | (refine (HP.out _ (H3.out.step (((Below.refl w3.heap.size w3).alloc (Nat.le_refl _) _).drew)).tabs).mono ?_; rintro r w4 ⟨B, d, rfl, hx4, hb4⟩; have hz4 := (hb4.block w3.heap.size (by simp)).trans (heap_alloc_new w3 _); obtain ⟨⟨k0, k1, k2, k3⟩, g0, g1, g2, g3⟩ := blk4 hz4; have hl4 := blk_lt hz4; have HZ4 := Lib.hid hz4; have HX4 := Lib.hid hx4; have HB4 := Lib.hid (show Below w3.heap.size w3 w4 from (((Below.refl w3.heap.size w3).alloc (Nat.le_refl _) _).drew).trans (hb4.mono (by simp))); clear hx4 hb4 hz4))
    all_goals
      go_wp2_with fail
      go_meet
      first
      | exact ⟨w4.heap.size, B, d, rfl, rfl, rfl, heap_alloc_new w4 _, HX4.out.below (by first | exact (Below.refl _ _).alloc (Nat.le_refl _) _ | exact ((Below.refl _ _).alloc (Nat.le_refl _) _).drew), by first | exact HB4.out.alloc HB4.out.size _ | exact (HB4.out.alloc HB4.out.size _).drew⟩
      | exact ⟨w3.heap.size, B, d, rfl, rfl, rfl, blk_set4 HZ4.out _ _ _ _, (HX4.out.keep (same_set4 w4 w3.heap.size _ _ _ _) (fun k hk => by simp at hk; simp; omega)).more (fun k hk => .inl (by simp; omega)), below_set4' HB4.out (Nat.le_refl _) _ _ _ _⟩
  case rest =>
    obtain ⟨Kx, B, d, rfl, rfl, rfl, hqx, hex, hbx⟩ := hcut
    have QX := Lib.hid hqx
    have EX := Lib.hid hex
    have HX := Lib.hid (H3.out.step hbx)
    have QS := Lib.hid ((hbx.block _ (blk_lt Q3.out)).trans Q3.out)
    have QL := Lib.hid ((hbx.block _ (blk_lt R3.out)).trans R3.out)
    have a1 := (blk_cell QS.out i).trans HSI.out
    have b1 := (blk_cell QL.out i).trans HLI.out
    have b2 := (blk_cell QL.out k).trans HLK.out
    obtain ⟨x0, x1, x2, x3⟩ := QX.out.cells
    clear hqx hex hbx hlS si3 sk3 Q3 R3 H3 H1 HSI HSK HLI HLK c1 c2 c3 c4
    by_cases hc : li = 3 ∧ lk = 3
    · obtain ⟨h11, h5⟩ := HCM.out hc
      obtain ⟨rfl, rfl⟩ := hc
      subst h11 h5
      go_wp2_with fail
      go_ret
      exact ⟨rfl, HX.out.below⟩
    · obtain ⟨h0, x, y, hks, hge, hlt⟩ := HTR.out hc
      obtain ⟨o, n, nm, ks⟩ := e
      have hks : ks = [x, y] := hks
      have hge : lk ≤ li → o = 4 + (k : Int) ∧ x.op = 4 + (i : Int) ∧ y.name = ⟨#[99]⟩ := hge
      have hlt : li < lk → o = 4 + (i : Int) ∧ y.op = 4 + (k : Int) ∧ x.name = ⟨#[97]⟩ := hlt
      subst hks h0
      have hrow : exK.Row [] _ B [x, y] := EX.out.row
      obtain ⟨bd, rfl⟩ := row_some hrow (by simp)
      obtain ⟨_, _, y0, _, y2, _, _, _⟩ := ex_zero hrow
      obtain ⟨_, _, z0, _, z2, _, _, _⟩ := ex_one hrow
      have hdl : (2 : Int) ≤ d := by have := EX.out.1; simp only [Ex.kids, List.length_cons, List.length_nil] at this; omega
      clear hrow
      have x0 : World.cell? _ ⟨Kx, 0, none⟩ = some (.int .i64 o) := x0
      have x3 : World.cell? _ ⟨Kx, 3, none⟩ = some (.slice (some bd) 2 d) := x3
      clear x1 x2
      have hb3 : li = 3 → (lk == 3) = false := fun h => by rw [beq_eq_false_iff_ne]; exact fun h' => hc ⟨h, h'⟩
      by_cases hl3 : li = 3
      · have g1 : (li == 3) = true := by rw [hl3]; rfl
        have g2 := hb3 hl3
        clear hb3 hc hl3
        by_cases hle : lk ≤ li
        · obtain ⟨rfl, hxo, hyn⟩ := hge hle
          rw [hxo] at y0
          rw [hyn] at z2
          clear hge hlt hxo hyn
          go_wp2_with fail
          go_quiet (fail)
          go_wp2_with fail
          go_ret
          exact ⟨rfl, below_drewN HX.out.below _⟩
        · have hle' : li < lk := by omega
          obtain ⟨rfl, hyo, hxn⟩ := hlt hle'
          rw [hyo] at z0
          rw [hxn] at y2
          clear hge hlt hyo hxn
          go_wp2_with fail
          go_quiet (fail)
          go_wp2_with fail
          go_ret
          exact ⟨rfl, below_drewN HX.out.below _⟩
      · have g1 : (li == 3) = false := by rw [beq_eq_false_iff_ne]; exact hl3
        clear hb3 hc hl3
        by_cases hle : lk ≤ li
        · obtain ⟨rfl, hxo, hyn⟩ := hge hle
          rw [hxo] at y0
          rw [hyn] at z2
          clear hge hlt hxo hyn
          go_wp2_with fail
          go_quiet (fail)
          go_wp2_with fail
          go_ret
          exact ⟨rfl, below_drewN HX.out.below _⟩
        · have hle' : li < lk := by omega
          obtain ⟨rfl, hyo, hxn⟩ := hlt hle'
          rw [hyo] at z0
          rw [hxn] at y2
          clear hge hlt hyo hxn
          go_wp2_with fail
          go_quiet (fail)
          go_wp2_with fail
          go_ret
          exact ⟨rfl, below_drewN HX.out.below _⟩
theorem lines_any (a b : Int) (w : World) (hT : Tabs w) (_ha : Fits a) (_hb : Fits b) :
    Calls Tryd.prog 12 #[.int .i64 a, .int .i64 b] w fun r w' => r = .returned (.bool true) ∧ Below w.heap.size w w' := by
  by_cases h : 0 ≤ a ∧ a < 13 ∧ 0 ≤ b ∧ b < 13
  · have := lines_in a.toNat b.toNat w hT (by omega) (by omega)
    rwa [Int.toNat_of_nonneg h.1, Int.toNat_of_nonneg h.2.2.1] at this
  · exact lines_out a b w hT (by omega)
end Go.Proofs.YtgaiheojlmebaaaDoor
