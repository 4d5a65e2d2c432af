/- The law of sums: the walk. (printed by gen_checked.py) -/
import Derived.Test.YtgaiheojlmebaaaDoorK2
import Derived.Deep.DeepCutAuto
import Derived.Deep.CutBlock
namespace Go.Proofs.YtgaiheojlmebaaaDoor
open Go Go.RowKit Go.Lib

set_option maxHeartbeats 16000000 in
set_option maxRecDepth 100000 in
theorem checked_any (a b : Int) (w : World) (hT : Tabs w) (ha : Fits a) (hb : Fits b) :
    Calls Tryd.prog 9 #[.int .i64 a, .int .i64 b] w fun r w' => r = .returned (.bool true) ∧ Below w.heap.size w w' := by
  have HT := Lib.hid hT
  have HA := Lib.hid ha
  have HB := Lib.hid hb
  clear hT ha hb
  go_enter Tryd.func9, Tryd.ntmps9
  go_wp2_with fail
  refine (awake_any w HT.out).mono ?_
  rintro r w1 ⟨rfl, hb1⟩
  have H1 := Lib.hid (Hold.mk (HT.out.below hb1) hb1)
  clear hb1
  go_wp2_with fail
  obtain ⟨w2, hw2⟩ : ∃ w2, w1.alloc (.cells #[.string ⟨#[97]⟩, .int .i64 a, .string ⟨#[98]⟩, .int .i64 b] 44 (0, 0)) = w2 := ⟨_, rfl⟩
  have hb2 : Below w1.heap.size w1 w2 := hw2 ▸ (Below.refl _ _).alloc (Nat.le_refl _) _
  have hK2 : EnvB w2 w1.heap.size a b := hw2 ▸ heap_alloc_new _ _
  rw [hw2]
  obtain ⟨K, hK⟩ : ∃ K, w1.heap.size = K := ⟨_, rfl⟩
  rw [hK] at hK2 ⊢
  have H2 := Lib.hid (H1.out.step hb2)
  have N2 := Lib.hid hK2
  clear hb2 hK2 hw2 hK
  go_loopg [7] 3 (fun k s7 w' => ∃ op : Int, s7 = .int .i64 op ∧ 4 ≤ op ∧ op ≤ 6 ∧ (6 - op).toNat < k ∧ EnvB w' K a b ∧ Hold w w')
  case atStart => exact ⟨4, rfl, by decide, by decide, by decide, N2.out, H2.out⟩
  case round =>
    obtain ⟨op, rfl, h4, h6, hk, hn, hh⟩ := hrel
    obtain ⟨gk, rfl⟩ : ∃ k, gk = k + 1 := ⟨gk - 1, by omega⟩
    have HN := Lib.hid hn
    have HH := Lib.hid hh
    have HKK := Lib.hid hk
    clear hn hh N2 H2 H1 hk
    have hop : op = 6 ∨ op = 4 ∨ op = 5 := by omega
    clear h4 h6
    rcases hop with rfl | rfl | rfl
    · go_wp2_with fail
      go_ret
      exact ⟨rfl, HH.out.below⟩
    · by_cases hfit : Fits (a + b)
      · have HEV : Hid (eTwo 4 a b = (a + b, 0)) := Lib.hid (by unfold eTwo chk; rw [if_pos rfl, if_pos hfit])
        have HBK : Hid (eTwo 5 (a + b) b = (a, 0)) := Lib.hid (by unfold eTwo chk; rw [if_neg (by decide), if_pos rfl, show a + b - b = a by omega, if_pos HA.out])
        have HNF := Lib.hid hfit
        have HCK : Hid (∀ W, Calls Tryd.prog 25 #[.int .i64 4, .int .i64 a, .int .i64 b] W fun r w' => r = .returned (.bool false) ∧ w' = W) := Lib.hid (fun W => by
          have h := checked_add a b W HA.out HB.out
          rwa [show decide (¬ Fits (a + b)) = false from decide_eq_false (fun h => h hfit)] at h)
        clear hfit
        obtain ⟨n, hn⟩ : ∃ n, a + b = n := ⟨_, rfl⟩
        rw [hn] at HEV HBK HNF
        clear hn
        go_wp2_with fail
        obtain ⟨w4, hw4⟩ : ∃ w', (wr.alloc (.cells #[.int .i64 1, .int .i64 0, .string ⟨#[97]⟩, .slice none 0 0, .int .i64 1, .int .i64 0, .string ⟨#[98]⟩, .slice none 0 0] 25 (0, 0))).alloc (.cells #[.int .i64 4, .int .i64 0, .string ⟨#[]⟩, .slice (some ⟨wr.heap.size, 0, none⟩) 2 2] 25 (0, 0)) = w' := ⟨_, rfl⟩
        have hb4 : Below wr.heap.size wr w4 := hw4 ▸ ((Below.refl _ _).alloc (Nat.le_refl _) _).alloc (by simp) _
        have hq4 : w4.heap[wr.heap.size]? = some (.cells #[.int .i64 1, .int .i64 0, .string ⟨#[97]⟩, .slice none 0 0, .int .i64 1, .int .i64 0, .string ⟨#[98]⟩, .slice none 0 0] 25 (0, 0)) := hw4 ▸ (Below.heap_alloc _ _ _ (by simp)).trans (heap_alloc_new _ _)
        have he4 : w4.heap[wr.heap.size + 1]? = some (.cells #[.int .i64 4, .int .i64 0, .string ⟨#[]⟩, .slice (some ⟨wr.heap.size, 0, none⟩) 2 2] 25 (0, 0)) := by
          have h := heap_alloc_new (wr.alloc (.cells #[.int .i64 1, .int .i64 0, .string ⟨#[97]⟩, .slice none 0 0, .int .i64 1, .int .i64 0, .string ⟨#[98]⟩, .slice none 0 0] 25 (0, 0))) (.cells #[.int .i64 4, .int .i64 0, .string ⟨#[]⟩, .slice (some ⟨wr.heap.size, 0, none⟩) 2 2] 25 (0, 0))
          rw [hw4] at h
          simpa using h
        have hx4 : ExF (fun k => k < wr.heap.size) w4 (pairE 4) (some ⟨wr.heap.size, 0, none⟩) 2 := ExF.two (k := wr.heap.size) (e := .mk 1 0 ⟨#[97]⟩ []) (r := .mk 1 0 ⟨#[98]⟩ []) (A := none) (B := none) (c := 0) (d := 0) (t := 25) (by omega) (ExF.leaf rfl) (ExF.leaf rfl) hq4 4
        have N4 := Lib.hid (HN.out.step hb4)
        have H4 := Lib.hid (HH.out.step hb4)
        have X4 := Lib.hid hx4
        have E4 := Lib.hid he4
        rw [hw4]
        clear hb4 hq4 he4 hx4 hw4
        refine (evalpair_any 4 a b (by decide) (by decide) HA.out HB.out _ K _ w4 X4.out N4.out H4.out.tabs).mono ?_
        rw [HEV.out]
        rintro r w5 ⟨rfl, hb5⟩
        have N5 := Lib.hid (N4.out.step hb5)
        have H5 := Lib.hid (H4.out.step hb5)
        clear hb5 E4 X4 N4 H4
        go_wp2_with fail
        refine (HCK.out _).mono ?_
        rintro r w6 ⟨rfl, rfl⟩
        go_wp2_with fail
        obtain ⟨w7, hw7⟩ : ∃ w', (w6.alloc (.cells #[.int .i64 1, .int .i64 0, .string ⟨#[99]⟩, .slice none 0 0, .int .i64 1, .int .i64 0, .string ⟨#[98]⟩, .slice none 0 0] 25 (0, 0))).alloc (.cells #[.int .i64 5, .int .i64 0, .string ⟨#[]⟩, .slice (some ⟨w6.heap.size, 0, none⟩) 2 2] 25 (0, 0)) = w' := ⟨_, rfl⟩
        have hb7 : Below w6.heap.size w6 w7 := hw7 ▸ ((Below.refl _ _).alloc (Nat.le_refl _) _).alloc (by simp) _
        have hq7 : w7.heap[w6.heap.size]? = some (.cells #[.int .i64 1, .int .i64 0, .string ⟨#[99]⟩, .slice none 0 0, .int .i64 1, .int .i64 0, .string ⟨#[98]⟩, .slice none 0 0] 25 (0, 0)) := hw7 ▸ (Below.heap_alloc _ _ _ (by simp)).trans (heap_alloc_new _ _)
        have he7 : w7.heap[w6.heap.size + 1]? = some (.cells #[.int .i64 5, .int .i64 0, .string ⟨#[]⟩, .slice (some ⟨w6.heap.size, 0, none⟩) 2 2] 25 (0, 0)) := by
          have h := heap_alloc_new (w6.alloc (.cells #[.int .i64 1, .int .i64 0, .string ⟨#[99]⟩, .slice none 0 0, .int .i64 1, .int .i64 0, .string ⟨#[98]⟩, .slice none 0 0] 25 (0, 0))) (.cells #[.int .i64 5, .int .i64 0, .string ⟨#[]⟩, .slice (some ⟨w6.heap.size, 0, none⟩) 2 2] 25 (0, 0))
          rw [hw7] at h
          simpa using h
        have hx7 : ExF (fun k => k < w6.heap.size) w7 (pairN 5 ⟨#[99]⟩ ⟨#[98]⟩) (some ⟨w6.heap.size, 0, none⟩) 2 := ExF.two (k := w6.heap.size) (e := .mk 1 0 ⟨#[99]⟩ []) (r := .mk 1 0 ⟨#[98]⟩ []) (A := none) (B := none) (c := 0) (d := 0) (t := 25) (by omega) (ExF.leaf rfl) (ExF.leaf rfl) hq7 5
        have N7 := Lib.hid (N5.out.step hb7)
        have H7 := Lib.hid (H5.out.step hb7)
        have X7 := Lib.hid hx7
        have E7 := Lib.hid he7
        rw [hw7]
        clear hb7 hq7 he7 hx7 hw7
        obtain ⟨Q, hQ⟩ : ∃ Q, w6.heap.size = Q := ⟨_, rfl⟩
        have E7' : Hid (w7.heap[Q + 1]? = some (.cells #[.int .i64 5, .int .i64 0, .string ⟨#[]⟩, .slice (some ⟨Q, 0, none⟩) 2 2] 25 (0, 0))) := Lib.hid (by rw [← hQ]; exact E7.out)
        have X7' : Hid (ExF (fun k => k < Q) w7 (pairN 5 ⟨#[99]⟩ ⟨#[98]⟩) (some ⟨Q, 0, none⟩) 2) := Lib.hid (by rw [← hQ]; exact X7.out)
        rw [hQ]
        clear hQ E7 X7
        obtain ⟨⟨z0, z1, z2, z3⟩, _⟩ := blk4 E7'.out
        have y2 := (blk_cell N7.out 2).trans rfl
        have y3 := (blk_cell N7.out 3).trans rfl
        have hl1 : Q + 1 < w7.heap.size := blk_lt E7'.out
        have hl2 : K < w7.heap.size := blk_lt N7.out
        have HCALL : Hid (∀ W (k : Nat), Below w7.heap.size w7 W → W.heap[k]? = some (.cells #[.string ⟨#[99]⟩, .int .i64 n, .string ⟨#[98]⟩, .int .i64 b] 44 (0, 0)) →
            Calls Tryd.prog 20 #[.agg #[.int .i64 5, .int .i64 0, .string ⟨#[]⟩, .slice (some ⟨Q, 0, none⟩) 2 2], .slice (some ⟨k, 0, none⟩) 2 2] W (ReckPost (a, 0) W)) := Lib.hid (fun W k hW hk => by
          have h := evalback_any 5 n b (by decide) HNF.out HB.out _ k _ W (X7'.out.below hW) hk (H7.out.tabs.below hW)
          rwa [HBK.out] at h)
        go_wp2_with fail
        go_cut [14, 15] (fun s14 s15 wx => s14 = .int .i64 a ∧ s15 = .int .i64 0 ∧ EnvB wx K a b ∧ Hold w wx)
        case first =>
          go_region_with ((refine (HCALL.out _ _ ?_ ?_).mono ?_; (exact ((Below.refl _ _).alloc (Nat.le_refl _) _).drew); (exact heap_alloc_new _ _); rintro r w8 ⟨rfl, hb8⟩; have hb78 : Below w7.heap.size w7 w8 := (((Below.refl _ _).alloc (Nat.le_refl _) _).drew).trans (hb8.mono (by simp)); have N8 := Lib.hid (N7.out.step hb78); have H8 := Lib.hid (H7.out.step hb78); clear hb8 hb78))
          all_goals
            go_wp2_with fail
            go_meet
            exact ⟨rfl, rfl, N8.out, H8.out⟩
        case rest =>
          obtain ⟨rfl, rfl, hn8, hh8⟩ := hcut
          have N8 := Lib.hid hn8
          have H8 := Lib.hid hh8
          clear hn8 hh8
          go_wp2_with fail
          go_roundg gk
          case measure => exact Nat.lt_succ_self _
          case rel => exact ⟨4 + 1, rfl, by decide, by decide, by have := HKK.out; omega, N8.out, H8.out⟩
      · have HEV : Hid (eTwo 4 a b = (0, 22)) := Lib.hid (by unfold eTwo chk; rw [if_pos rfl, if_neg hfit])
        obtain ⟨n, hn⟩ : ∃ n : Int, n = 0 := ⟨_, rfl⟩
        obtain ⟨⟨m, g⟩, hmg⟩ : ∃ p, eTwo 5 n b = p := ⟨_, rfl⟩
        have HBK := Lib.hid hmg
        have HNF : Hid (Fits n) := Lib.hid (by rw [hn]; exact ⟨by decide, by decide⟩)
        have HEV : Hid (eTwo 4 a b = (n, 22)) := Lib.hid (by rw [hn]; exact HEV.out)
        have HCK : Hid (∀ W, Calls Tryd.prog 25 #[.int .i64 4, .int .i64 a, .int .i64 b] W fun r w' => r = .returned (.bool true) ∧ w' = W) := Lib.hid (fun W => by
          have h := checked_add a b W HA.out HB.out
          rwa [show decide (¬ Fits (a + b)) = true from decide_eq_true hfit] at h)
        clear hfit hmg hn
        go_wp2_with fail
        obtain ⟨w4, hw4⟩ : ∃ w', (wr.alloc (.cells #[.int .i64 1, .int .i64 0, .string ⟨#[97]⟩, .slice none 0 0, .int .i64 1, .int .i64 0, .string ⟨#[98]⟩, .slice none 0 0] 25 (0, 0))).alloc (.cells #[.int .i64 4, .int .i64 0, .string ⟨#[]⟩, .slice (some ⟨wr.heap.size, 0, none⟩) 2 2] 25 (0, 0)) = w' := ⟨_, rfl⟩
        have hb4 : Below wr.heap.size wr w4 := hw4 ▸ ((Below.refl _ _).alloc (Nat.le_refl _) _).alloc (by simp) _
        have hq4 : w4.heap[wr.heap.size]? = some (.cells #[.int .i64 1, .int .i64 0, .string ⟨#[97]⟩, .slice none 0 0, .int .i64 1, .int .i64 0, .string ⟨#[98]⟩, .slice none 0 0] 25 (0, 0)) := hw4 ▸ (Below.heap_alloc _ _ _ (by simp)).trans (heap_alloc_new _ _)
        have he4 : w4.heap[wr.heap.size + 1]? = some (.cells #[.int .i64 4, .int .i64 0, .string ⟨#[]⟩, .slice (some ⟨wr.heap.size, 0, none⟩) 2 2] 25 (0, 0)) := by
          have h := heap_alloc_new (wr.alloc (.cells #[.int .i64 1, .int .i64 0, .string ⟨#[97]⟩, .slice none 0 0, .int .i64 1, .int .i64 0, .string ⟨#[98]⟩, .slice none 0 0] 25 (0, 0))) (.cells #[.int .i64 4, .int .i64 0, .string ⟨#[]⟩, .slice (some ⟨wr.heap.size, 0, none⟩) 2 2] 25 (0, 0))
          rw [hw4] at h
          simpa using h
        have hx4 : ExF (fun k => k < wr.heap.size) w4 (pairE 4) (some ⟨wr.heap.size, 0, none⟩) 2 := ExF.two (k := wr.heap.size) (e := .mk 1 0 ⟨#[97]⟩ []) (r := .mk 1 0 ⟨#[98]⟩ []) (A := none) (B := none) (c := 0) (d := 0) (t := 25) (by omega) (ExF.leaf rfl) (ExF.leaf rfl) hq4 4
        have N4 := Lib.hid (HN.out.step hb4)
        have H4 := Lib.hid (HH.out.step hb4)
        have X4 := Lib.hid hx4
        have E4 := Lib.hid he4
        rw [hw4]
        clear hb4 hq4 he4 hx4 hw4
        refine (evalpair_any 4 a b (by decide) (by decide) HA.out HB.out _ K _ w4 X4.out N4.out H4.out.tabs).mono ?_
        rw [HEV.out]
        rintro r w5 ⟨rfl, hb5⟩
        have N5 := Lib.hid (N4.out.step hb5)
        have H5 := Lib.hid (H4.out.step hb5)
        clear hb5 E4 X4 N4 H4
        go_wp2_with fail
        refine (HCK.out _).mono ?_
        rintro r w6 ⟨rfl, rfl⟩
        go_wp2_with fail
        obtain ⟨w7, hw7⟩ : ∃ w', (w6.alloc (.cells #[.int .i64 1, .int .i64 0, .string ⟨#[99]⟩, .slice none 0 0, .int .i64 1, .int .i64 0, .string ⟨#[98]⟩, .slice none 0 0] 25 (0, 0))).alloc (.cells #[.int .i64 5, .int .i64 0, .string ⟨#[]⟩, .slice (some ⟨w6.heap.size, 0, none⟩) 2 2] 25 (0, 0)) = w' := ⟨_, rfl⟩
        have hb7 : Below w6.heap.size w6 w7 := hw7 ▸ ((Below.refl _ _).alloc (Nat.le_refl _) _).alloc (by simp) _
        have hq7 : w7.heap[w6.heap.size]? = some (.cells #[.int .i64 1, .int .i64 0, .string ⟨#[99]⟩, .slice none 0 0, .int .i64 1, .int .i64 0, .string ⟨#[98]⟩, .slice none 0 0] 25 (0, 0)) := hw7 ▸ (Below.heap_alloc _ _ _ (by simp)).trans (heap_alloc_new _ _)
        have he7 : w7.heap[w6.heap.size + 1]? = some (.cells #[.int .i64 5, .int .i64 0, .string ⟨#[]⟩, .slice (some ⟨w6.heap.size, 0, none⟩) 2 2] 25 (0, 0)) := by
          have h := heap_alloc_new (w6.alloc (.cells #[.int .i64 1, .int .i64 0, .string ⟨#[99]⟩, .slice none 0 0, .int .i64 1, .int .i64 0, .string ⟨#[98]⟩, .slice none 0 0] 25 (0, 0))) (.cells #[.int .i64 5, .int .i64 0, .string ⟨#[]⟩, .slice (some ⟨w6.heap.size, 0, none⟩) 2 2] 25 (0, 0))
          rw [hw7] at h
          simpa using h
        have hx7 : ExF (fun k => k < w6.heap.size) w7 (pairN 5 ⟨#[99]⟩ ⟨#[98]⟩) (some ⟨w6.heap.size, 0, none⟩) 2 := ExF.two (k := w6.heap.size) (e := .mk 1 0 ⟨#[99]⟩ []) (r := .mk 1 0 ⟨#[98]⟩ []) (A := none) (B := none) (c := 0) (d := 0) (t := 25) (by omega) (ExF.leaf rfl) (ExF.leaf rfl) hq7 5
        have N7 := Lib.hid (N5.out.step hb7)
        have H7 := Lib.hid (H5.out.step hb7)
        have X7 := Lib.hid hx7
        have E7 := Lib.hid he7
        rw [hw7]
        clear hb7 hq7 he7 hx7 hw7
        obtain ⟨Q, hQ⟩ : ∃ Q, w6.heap.size = Q := ⟨_, rfl⟩
        have E7' : Hid (w7.heap[Q + 1]? = some (.cells #[.int .i64 5, .int .i64 0, .string ⟨#[]⟩, .slice (some ⟨Q, 0, none⟩) 2 2] 25 (0, 0))) := Lib.hid (by rw [← hQ]; exact E7.out)
        have X7' : Hid (ExF (fun k => k < Q) w7 (pairN 5 ⟨#[99]⟩ ⟨#[98]⟩) (some ⟨Q, 0, none⟩) 2) := Lib.hid (by rw [← hQ]; exact X7.out)
        rw [hQ]
        clear hQ E7 X7
        obtain ⟨⟨z0, z1, z2, z3⟩, _⟩ := blk4 E7'.out
        have y2 := (blk_cell N7.out 2).trans rfl
        have y3 := (blk_cell N7.out 3).trans rfl
        have hl1 : Q + 1 < w7.heap.size := blk_lt E7'.out
        have hl2 : K < w7.heap.size := blk_lt N7.out
        have HCALL : Hid (∀ W (k : Nat), Below w7.heap.size w7 W → W.heap[k]? = some (.cells #[.string ⟨#[99]⟩, .int .i64 n, .string ⟨#[98]⟩, .int .i64 b] 44 (0, 0)) →
            Calls Tryd.prog 20 #[.agg #[.int .i64 5, .int .i64 0, .string ⟨#[]⟩, .slice (some ⟨Q, 0, none⟩) 2 2], .slice (some ⟨k, 0, none⟩) 2 2] W (ReckPost (m, g) W)) := Lib.hid (fun W k hW hk => by
          have h := evalback_any 5 n b (by decide) HNF.out HB.out _ k _ W (X7'.out.below hW) hk (H7.out.tabs.below hW)
          rwa [HBK.out] at h)
        go_wp2_with fail
        go_cut [14, 15] (fun s14 s15 wx => s14 = .int .i64 m ∧ s15 = .int .i64 g ∧ EnvB wx K a b ∧ Hold w wx)
        case first =>
          go_region_with ((refine (HCALL.out _ _ ?_ ?_).mono ?_; (exact ((Below.refl _ _).alloc (Nat.le_refl _) _).drew); (exact heap_alloc_new _ _); rintro r w8 ⟨rfl, hb8⟩; have hb78 : Below w7.heap.size w7 w8 := (((Below.refl _ _).alloc (Nat.le_refl _) _).drew).trans (hb8.mono (by simp)); have N8 := Lib.hid (N7.out.step hb78); have H8 := Lib.hid (H7.out.step hb78); clear hb8 hb78))
          all_goals
            go_wp2_with fail
            go_meet
            exact ⟨rfl, rfl, N8.out, H8.out⟩
        case rest =>
          obtain ⟨rfl, rfl, hn8, hh8⟩ := hcut
          have N8 := Lib.hid hn8
          have H8 := Lib.hid hh8
          clear hn8 hh8
          go_wp2_with fail
          go_roundg gk
          case measure => exact Nat.lt_succ_self _
          case rel => exact ⟨4 + 1, rfl, by decide, by decide, by have := HKK.out; omega, N8.out, H8.out⟩
    · by_cases hfit : Fits (a - b)
      · have HEV : Hid (eTwo 5 a b = (a - b, 0)) := Lib.hid (by unfold eTwo chk; rw [if_neg (by decide), if_pos rfl, if_pos hfit])
        have HBK : Hid (eTwo 4 (a - b) b = (a, 0)) := Lib.hid (by unfold eTwo chk; rw [if_pos rfl, show a - b + b = a by omega, if_pos HA.out])
        have HNF := Lib.hid hfit
        have HCK : Hid (∀ W, Calls Tryd.prog 25 #[.int .i64 5, .int .i64 a, .int .i64 b] W fun r w' => r = .returned (.bool false) ∧ w' = W) := Lib.hid (fun W => by
          have h := checked_sub a b W HA.out HB.out
          rwa [show decide (¬ Fits (a - b)) = false from decide_eq_false (fun h => h hfit)] at h)
        clear hfit
        obtain ⟨n, hn⟩ : ∃ n, a - b = n := ⟨_, rfl⟩
        rw [hn] at HEV HBK HNF
        clear hn
        go_wp2_with fail
        obtain ⟨w4, hw4⟩ : ∃ w', (wr.alloc (.cells #[.int .i64 1, .int .i64 0, .string ⟨#[97]⟩, .slice none 0 0, .int .i64 1, .int .i64 0, .string ⟨#[98]⟩, .slice none 0 0] 25 (0, 0))).alloc (.cells #[.int .i64 5, .int .i64 0, .string ⟨#[]⟩, .slice (some ⟨wr.heap.size, 0, none⟩) 2 2] 25 (0, 0)) = w' := ⟨_, rfl⟩
        have hb4 : Below wr.heap.size wr w4 := hw4 ▸ ((Below.refl _ _).alloc (Nat.le_refl _) _).alloc (by simp) _
        have hq4 : w4.heap[wr.heap.size]? = some (.cells #[.int .i64 1, .int .i64 0, .string ⟨#[97]⟩, .slice none 0 0, .int .i64 1, .int .i64 0, .string ⟨#[98]⟩, .slice none 0 0] 25 (0, 0)) := hw4 ▸ (Below.heap_alloc _ _ _ (by simp)).trans (heap_alloc_new _ _)
        have he4 : w4.heap[wr.heap.size + 1]? = some (.cells #[.int .i64 5, .int .i64 0, .string ⟨#[]⟩, .slice (some ⟨wr.heap.size, 0, none⟩) 2 2] 25 (0, 0)) := by
          have h := heap_alloc_new (wr.alloc (.cells #[.int .i64 1, .int .i64 0, .string ⟨#[97]⟩, .slice none 0 0, .int .i64 1, .int .i64 0, .string ⟨#[98]⟩, .slice none 0 0] 25 (0, 0))) (.cells #[.int .i64 5, .int .i64 0, .string ⟨#[]⟩, .slice (some ⟨wr.heap.size, 0, none⟩) 2 2] 25 (0, 0))
          rw [hw4] at h
          simpa using h
        have hx4 : ExF (fun k => k < wr.heap.size) w4 (pairE 5) (some ⟨wr.heap.size, 0, none⟩) 2 := ExF.two (k := wr.heap.size) (e := .mk 1 0 ⟨#[97]⟩ []) (r := .mk 1 0 ⟨#[98]⟩ []) (A := none) (B := none) (c := 0) (d := 0) (t := 25) (by omega) (ExF.leaf rfl) (ExF.leaf rfl) hq4 5
        have N4 := Lib.hid (HN.out.step hb4)
        have H4 := Lib.hid (HH.out.step hb4)
        have X4 := Lib.hid hx4
        have E4 := Lib.hid he4
        rw [hw4]
        clear hb4 hq4 he4 hx4 hw4
        refine (evalpair_any 5 a b (by decide) (by decide) HA.out HB.out _ K _ w4 X4.out N4.out H4.out.tabs).mono ?_
        rw [HEV.out]
        rintro r w5 ⟨rfl, hb5⟩
        have N5 := Lib.hid (N4.out.step hb5)
        have H5 := Lib.hid (H4.out.step hb5)
        clear hb5 E4 X4 N4 H4
        go_wp2_with fail
        refine (HCK.out _).mono ?_
        rintro r w6 ⟨rfl, rfl⟩
        go_wp2_with fail
        obtain ⟨w7, hw7⟩ : ∃ w', (w6.alloc (.cells #[.int .i64 1, .int .i64 0, .string ⟨#[99]⟩, .slice none 0 0, .int .i64 1, .int .i64 0, .string ⟨#[98]⟩, .slice none 0 0] 25 (0, 0))).alloc (.cells #[.int .i64 4, .int .i64 0, .string ⟨#[]⟩, .slice (some ⟨w6.heap.size, 0, none⟩) 2 2] 25 (0, 0)) = w' := ⟨_, rfl⟩
        have hb7 : Below w6.heap.size w6 w7 := hw7 ▸ ((Below.refl _ _).alloc (Nat.le_refl _) _).alloc (by simp) _
        have hq7 : w7.heap[w6.heap.size]? = some (.cells #[.int .i64 1, .int .i64 0, .string ⟨#[99]⟩, .slice none 0 0, .int .i64 1, .int .i64 0, .string ⟨#[98]⟩, .slice none 0 0] 25 (0, 0)) := hw7 ▸ (Below.heap_alloc _ _ _ (by simp)).trans (heap_alloc_new _ _)
        have he7 : w7.heap[w6.heap.size + 1]? = some (.cells #[.int .i64 4, .int .i64 0, .string ⟨#[]⟩, .slice (some ⟨w6.heap.size, 0, none⟩) 2 2] 25 (0, 0)) := by
          have h := heap_alloc_new (w6.alloc (.cells #[.int .i64 1, .int .i64 0, .string ⟨#[99]⟩, .slice none 0 0, .int .i64 1, .int .i64 0, .string ⟨#[98]⟩, .slice none 0 0] 25 (0, 0))) (.cells #[.int .i64 4, .int .i64 0, .string ⟨#[]⟩, .slice (some ⟨w6.heap.size, 0, none⟩) 2 2] 25 (0, 0))
          rw [hw7] at h
          simpa using h
        have hx7 : ExF (fun k => k < w6.heap.size) w7 (pairN 4 ⟨#[99]⟩ ⟨#[98]⟩) (some ⟨w6.heap.size, 0, none⟩) 2 := ExF.two (k := w6.heap.size) (e := .mk 1 0 ⟨#[99]⟩ []) (r := .mk 1 0 ⟨#[98]⟩ []) (A := none) (B := none) (c := 0) (d := 0) (t := 25) (by omega) (ExF.leaf rfl) (ExF.leaf rfl) hq7 4
        have N7 := Lib.hid (N5.out.step hb7)
        have H7 := Lib.hid (H5.out.step hb7)
        have X7 := Lib.hid hx7
        have E7 := Lib.hid he7
        rw [hw7]
        clear hb7 hq7 he7 hx7 hw7
        obtain ⟨Q, hQ⟩ : ∃ Q, w6.heap.size = Q := ⟨_, rfl⟩
        have E7' : Hid (w7.heap[Q + 1]? = some (.cells #[.int .i64 4, .int .i64 0, .string ⟨#[]⟩, .slice (some ⟨Q, 0, none⟩) 2 2] 25 (0, 0))) := Lib.hid (by rw [← hQ]; exact E7.out)
        have X7' : Hid (ExF (fun k => k < Q) w7 (pairN 4 ⟨#[99]⟩ ⟨#[98]⟩) (some ⟨Q, 0, none⟩) 2) := Lib.hid (by rw [← hQ]; exact X7.out)
        rw [hQ]
        clear hQ E7 X7
        obtain ⟨⟨z0, z1, z2, z3⟩, _⟩ := blk4 E7'.out
        have y2 := (blk_cell N7.out 2).trans rfl
        have y3 := (blk_cell N7.out 3).trans rfl
        have hl1 : Q + 1 < w7.heap.size := blk_lt E7'.out
        have hl2 : K < w7.heap.size := blk_lt N7.out
        have HCALL : Hid (∀ W (k : Nat), Below w7.heap.size w7 W → W.heap[k]? = some (.cells #[.string ⟨#[99]⟩, .int .i64 n, .string ⟨#[98]⟩, .int .i64 b] 44 (0, 0)) →
            Calls Tryd.prog 20 #[.agg #[.int .i64 4, .int .i64 0, .string ⟨#[]⟩, .slice (some ⟨Q, 0, none⟩) 2 2], .slice (some ⟨k, 0, none⟩) 2 2] W (ReckPost (a, 0) W)) := Lib.hid (fun W k hW hk => by
          have h := evalback_any 4 n b (by decide) HNF.out HB.out _ k _ W (X7'.out.below hW) hk (H7.out.tabs.below hW)
          rwa [HBK.out] at h)
        go_wp2_with fail
        go_cut [14, 15] (fun s14 s15 wx => s14 = .int .i64 a ∧ s15 = .int .i64 0 ∧ EnvB wx K a b ∧ Hold w wx)
        case first =>
          go_region_with ((refine (HCALL.out _ _ ?_ ?_).mono ?_; (exact ((Below.refl _ _).alloc (Nat.le_refl _) _).drew); (exact heap_alloc_new _ _); rintro r w8 ⟨rfl, hb8⟩; have hb78 : Below w7.heap.size w7 w8 := (((Below.refl _ _).alloc (Nat.le_refl _) _).drew).trans (hb8.mono (by simp)); have N8 := Lib.hid (N7.out.step hb78); have H8 := Lib.hid (H7.out.step hb78); clear hb8 hb78))
          all_goals
            go_wp2_with fail
            go_meet
            exact ⟨rfl, rfl, N8.out, H8.out⟩
        case rest =>
          obtain ⟨rfl, rfl, hn8, hh8⟩ := hcut
          have N8 := Lib.hid hn8
          have H8 := Lib.hid hh8
          clear hn8 hh8
          go_wp2_with fail
          go_roundg gk
          case measure => exact Nat.lt_succ_self _
          case rel => exact ⟨5 + 1, rfl, by decide, by decide, by have := HKK.out; omega, N8.out, H8.out⟩
      · have HEV : Hid (eTwo 5 a b = (0, 22)) := Lib.hid (by unfold eTwo chk; rw [if_neg (by decide), if_pos rfl, if_neg hfit])
        obtain ⟨n, hn⟩ : ∃ n : Int, n = 0 := ⟨_, rfl⟩
        obtain ⟨⟨m, g⟩, hmg⟩ : ∃ p, eTwo 4 n b = p := ⟨_, rfl⟩
        have HBK := Lib.hid hmg
        have HNF : Hid (Fits n) := Lib.hid (by rw [hn]; exact ⟨by decide, by decide⟩)
        have HEV : Hid (eTwo 5 a b = (n, 22)) := Lib.hid (by rw [hn]; exact HEV.out)
        have HCK : Hid (∀ W, Calls Tryd.prog 25 #[.int .i64 5, .int .i64 a, .int .i64 b] W fun r w' => r = .returned (.bool true) ∧ w' = W) := Lib.hid (fun W => by
          have h := checked_sub a b W HA.out HB.out
          rwa [show decide (¬ Fits (a - b)) = true from decide_eq_true hfit] at h)
        clear hfit hmg hn
        go_wp2_with fail
        obtain ⟨w4, hw4⟩ : ∃ w', (wr.alloc (.cells #[.int .i64 1, .int .i64 0, .string ⟨#[97]⟩, .slice none 0 0, .int .i64 1, .int .i64 0, .string ⟨#[98]⟩, .slice none 0 0] 25 (0, 0))).alloc (.cells #[.int .i64 5, .int .i64 0, .string ⟨#[]⟩, .slice (some ⟨wr.heap.size, 0, none⟩) 2 2] 25 (0, 0)) = w' := ⟨_, rfl⟩
        have hb4 : Below wr.heap.size wr w4 := hw4 ▸ ((Below.refl _ _).alloc (Nat.le_refl _) _).alloc (by simp) _
        have hq4 : w4.heap[wr.heap.size]? = some (.cells #[.int .i64 1, .int .i64 0, .string ⟨#[97]⟩, .slice none 0 0, .int .i64 1, .int .i64 0, .string ⟨#[98]⟩, .slice none 0 0] 25 (0, 0)) := hw4 ▸ (Below.heap_alloc _ _ _ (by simp)).trans (heap_alloc_new _ _)
        have he4 : w4.heap[wr.heap.size + 1]? = some (.cells #[.int .i64 5, .int .i64 0, .string ⟨#[]⟩, .slice (some ⟨wr.heap.size, 0, none⟩) 2 2] 25 (0, 0)) := by
          have h := heap_alloc_new (wr.alloc (.cells #[.int .i64 1, .int .i64 0, .string ⟨#[97]⟩, .slice none 0 0, .int .i64 1, .int .i64 0, .string ⟨#[98]⟩, .slice none 0 0] 25 (0, 0))) (.cells #[.int .i64 5, .int .i64 0, .string ⟨#[]⟩, .slice (some ⟨wr.heap.size, 0, none⟩) 2 2] 25 (0, 0))
          rw [hw4] at h
          simpa using h
        have hx4 : ExF (fun k => k < wr.heap.size) w4 (pairE 5) (some ⟨wr.heap.size, 0, none⟩) 2 := ExF.two (k := wr.heap.size) (e := .mk 1 0 ⟨#[97]⟩ []) (r := .mk 1 0 ⟨#[98]⟩ []) (A := none) (B := none) (c := 0) (d := 0) (t := 25) (by omega) (ExF.leaf rfl) (ExF.leaf rfl) hq4 5
        have N4 := Lib.hid (HN.out.step hb4)
        have H4 := Lib.hid (HH.out.step hb4)
        have X4 := Lib.hid hx4
        have E4 := Lib.hid he4
        rw [hw4]
        clear hb4 hq4 he4 hx4 hw4
        refine (evalpair_any 5 a b (by decide) (by decide) HA.out HB.out _ K _ w4 X4.out N4.out H4.out.tabs).mono ?_
        rw [HEV.out]
        rintro r w5 ⟨rfl, hb5⟩
        have N5 := Lib.hid (N4.out.step hb5)
        have H5 := Lib.hid (H4.out.step hb5)
        clear hb5 E4 X4 N4 H4
        go_wp2_with fail
        refine (HCK.out _).mono ?_
        rintro r w6 ⟨rfl, rfl⟩
        go_wp2_with fail
        obtain ⟨w7, hw7⟩ : ∃ w', (w6.alloc (.cells #[.int .i64 1, .int .i64 0, .string ⟨#[99]⟩, .slice none 0 0, .int .i64 1, .int .i64 0, .string ⟨#[98]⟩, .slice none 0 0] 25 (0, 0))).alloc (.cells #[.int .i64 4, .int .i64 0, .string ⟨#[]⟩, .slice (some ⟨w6.heap.size, 0, none⟩) 2 2] 25 (0, 0)) = w' := ⟨_, rfl⟩
        have hb7 : Below w6.heap.size w6 w7 := hw7 ▸ ((Below.refl _ _).alloc (Nat.le_refl _) _).alloc (by simp) _
        have hq7 : w7.heap[w6.heap.size]? = some (.cells #[.int .i64 1, .int .i64 0, .string ⟨#[99]⟩, .slice none 0 0, .int .i64 1, .int .i64 0, .string ⟨#[98]⟩, .slice none 0 0] 25 (0, 0)) := hw7 ▸ (Below.heap_alloc _ _ _ (by simp)).trans (heap_alloc_new _ _)
        have he7 : w7.heap[w6.heap.size + 1]? = some (.cells #[.int .i64 4, .int .i64 0, .string ⟨#[]⟩, .slice (some ⟨w6.heap.size, 0, none⟩) 2 2] 25 (0, 0)) := by
          have h := heap_alloc_new (w6.alloc (.cells #[.int .i64 1, .int .i64 0, .string ⟨#[99]⟩, .slice none 0 0, .int .i64 1, .int .i64 0, .string ⟨#[98]⟩, .slice none 0 0] 25 (0, 0))) (.cells #[.int .i64 4, .int .i64 0, .string ⟨#[]⟩, .slice (some ⟨w6.heap.size, 0, none⟩) 2 2] 25 (0, 0))
          rw [hw7] at h
          simpa using h
        have hx7 : ExF (fun k => k < w6.heap.size) w7 (pairN 4 ⟨#[99]⟩ ⟨#[98]⟩) (some ⟨w6.heap.size, 0, none⟩) 2 := ExF.two (k := w6.heap.size) (e := .mk 1 0 ⟨#[99]⟩ []) (r := .mk 1 0 ⟨#[98]⟩ []) (A := none) (B := none) (c := 0) (d := 0) (t := 25) (by omega) (ExF.leaf rfl) (ExF.leaf rfl) hq7 4
        have N7 := Lib.hid (N5.out.step hb7)
        have H7 := Lib.hid (H5.out.step hb7)
        have X7 := Lib.hid hx7
        have E7 := Lib.hid he7
        rw [hw7]
        clear hb7 hq7 he7 hx7 hw7
        obtain ⟨Q, hQ⟩ : ∃ Q, w6.heap.size = Q := ⟨_, rfl⟩
        have E7' : Hid (w7.heap[Q + 1]? = some (.cells #[.int .i64 4, .int .i64 0, .string ⟨#[]⟩, .slice (some ⟨Q, 0, none⟩) 2 2] 25 (0, 0))) := Lib.hid (by rw [← hQ]; exact E7.out)
        have X7' : Hid (ExF (fun k => k < Q) w7 (pairN 4 ⟨#[99]⟩ ⟨#[98]⟩) (some ⟨Q, 0, none⟩) 2) := Lib.hid (by rw [← hQ]; exact X7.out)
        rw [hQ]
        clear hQ E7 X7
        obtain ⟨⟨z0, z1, z2, z3⟩, _⟩ := blk4 E7'.out
        have y2 := (blk_cell N7.out 2).trans rfl
        have y3 := (blk_cell N7.out 3).trans rfl
        have hl1 : Q + 1 < w7.heap.size := blk_lt E7'.out
        have hl2 : K < w7.heap.size := blk_lt N7.out
        have HCALL : Hid (∀ W (k : Nat), Below w7.heap.size w7 W → W.heap[k]? = some (.cells #[.string ⟨#[99]⟩, .int .i64 n, .string ⟨#[98]⟩, .int .i64 b] 44 (0, 0)) →
            Calls Tryd.prog 20 #[.agg #[.int .i64 4, .int .i64 0, .string ⟨#[]⟩, .slice (some ⟨Q, 0, none⟩) 2 2], .slice (some ⟨k, 0, none⟩) 2 2] W (ReckPost (m, g) W)) := Lib.hid (fun W k hW hk => by
          have h := evalback_any 4 n b (by decide) HNF.out HB.out _ k _ W (X7'.out.below hW) hk (H7.out.tabs.below hW)
          rwa [HBK.out] at h)
        go_wp2_with fail
        go_cut [14, 15] (fun s14 s15 wx => s14 = .int .i64 m ∧ s15 = .int .i64 g ∧ EnvB wx K a b ∧ Hold w wx)
        case first =>
          go_region_with ((refine (HCALL.out _ _ ?_ ?_).mono ?_; (exact ((Below.refl _ _).alloc (Nat.le_refl _) _).drew); (exact heap_alloc_new _ _); rintro r w8 ⟨rfl, hb8⟩; have hb78 : Below w7.heap.size w7 w8 := (((Below.refl _ _).alloc (Nat.le_refl _) _).drew).trans (hb8.mono (by simp)); have N8 := Lib.hid (N7.out.step hb78); have H8 := Lib.hid (H7.out.step hb78); clear hb8 hb78))
          all_goals
            go_wp2_with fail
            go_meet
            exact ⟨rfl, rfl, N8.out, H8.out⟩
        case rest =>
          obtain ⟨rfl, rfl, hn8, hh8⟩ := hcut
          have N8 := Lib.hid hn8
          have H8 := Lib.hid hh8
          clear hn8 hh8
          go_wp2_with fail
          go_roundg gk
          case measure => exact Nat.lt_succ_self _
          case rel => exact ⟨5 + 1, rfl, by decide, by decide, by have := HKK.out; omega, N8.out, H8.out⟩
end Go.Proofs.YtgaiheojlmebaaaDoor
