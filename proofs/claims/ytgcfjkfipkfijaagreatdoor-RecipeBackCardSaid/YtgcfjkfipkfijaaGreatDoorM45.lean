/- Walks: the reference holds texts, nodes, recipes against each other. -/
import Derived.Test.YtgcfjkfipkfijaaGreatDoorM37
import Derived.Test.YtgcfjkfipkfijaaGreatDoorMI
namespace Go.Proofs.YtgcfjkfipkfijaaGreatDoor
open Go Go.RowKit Go.Lib

set_option maxHeartbeats 8000000 in
set_option maxRecDepth 100000 in
open Classical in
theorem xtexts_any {P Q : Nat → Prop} {w : World} {A B : Option Addr} {a b : Nat} {xs ys : List ByteArray} (hx : RowF Kind.str P w A a xs) (hy : RowF Kind.str Q w B b ys) :
    Calls Tryz.prog 16 #[.slice A xs.length a, .slice B ys.length b] w fun r w' => r = .returned (.bool (decide (xs = ys))) ∧ Below w.heap.size w w' := by
  obtain ⟨R, hR⟩ : ∃ F, decide (xs = ys) = F := ⟨_, rfl⟩
  rw [hR]
  have hxm := (hx.2 [] (by simp)).1
  have hym := (hy.2 [] (by simp)).1
  have hxc := hx.1
  have hyc := hy.1
  obtain ⟨n, hn⟩ : ∃ n, xs.length = n := ⟨_, rfl⟩
  obtain ⟨m, hm⟩ : ∃ n, ys.length = n := ⟨_, rfl⟩
  have H := Lib.hid (⟨hx, hy, hn, hm, hR⟩ : _ ∧ _ ∧ _ ∧ _ ∧ _)
  rw [hn] at hxm hxc ⊢
  rw [hm] at hym hyc ⊢
  clear hx hy hn hm hR
  by_cases hnm : n = m
  · subst hnm
    go_enter Tryz.func16, Tryz.ntmps16
    go_wp2_with fail
    go_loopg [5] (n + 1) (fun q s5 wr => ∃ i : Nat, s5 = .int .i64 (i : Nat) ∧ i ≤ n ∧ n - i < q ∧ xs.take i = ys.take i ∧ Below w.heap.size w wr)
    case atStart => exact ⟨0, rfl, Nat.zero_le _, by omega, by simp, Below.refl _ _⟩
    case round =>
      obtain ⟨i, rfl, hin, hiq, htk, hb⟩ := hrel
      obtain ⟨gk, rfl⟩ : ∃ k, gk = k + 1 := ⟨gk - 1, by omega⟩
      by_cases hlt : i < n
      · have hix : i < xs.length := by rw [H.out.2.2.1]; exact hlt
        have hiy : i < ys.length := by rw [H.out.2.2.2.1]; exact hlt
        obtain ⟨ad, rfl, c0, hl1⟩ := cell_some (H.out.1.below hb) i hix
        obtain ⟨bd, rfl, d0, hl2⟩ := cell_some (H.out.2.1.below hb) i hiy
        have HS := Lib.hid (⟨hix, hiy, htk, hb⟩ : ∃ (h1 : i < xs.length) (h2 : i < ys.length), xs.take i = ys.take i ∧ Below w.heap.size w wr)
        have HX := Lib.hid (fun (h1 : i < xs.length) (h2 : i < ys.length) (e : xs[i] = ys[i]) => e)
        have HN := Lib.hid (fun (e : xs[i] ≠ ys[i]) => ne_at hix hiy e)
        obtain ⟨x, hxx⟩ : ∃ x, xs[i] = x := ⟨_, rfl⟩
        obtain ⟨y, hyy⟩ : ∃ x, ys[i] = x := ⟨_, rfl⟩
        have HE := Lib.hid (⟨hix, hiy, hxx, hyy⟩ : ∃ (h1 : i < xs.length) (h2 : i < ys.length), xs[i] = x ∧ ys[i] = y)
        rw [hxx] at c0
        rw [hyy] at d0
        have hz : (i : Int) < n := by omega
        have hz0 : (0 : Int) ≤ i := by omega
        clear htk hb hxx hyy HX HN
        by_cases hxy : x = y
        · subst hxy
          clear hix hiy
          go_wp2_with fail
          go_region
          all_goals
            go_wp2_with fail
            go_roundg gk
            case measure => omega
            case rel =>
              obtain ⟨h1, h2, h4, h5⟩ := HS.out
              obtain ⟨_, _, e1, e2⟩ := HE.out
              exact ⟨i + 1, by go_num, by omega, by omega, take_next h1 h2 h4 (e1.trans e2.symm), h5.drew⟩
        · obtain ⟨t1, t3⟩ := str_ne hxy
          have t2 := bne_of t1
          have t4 := bne_of t3
          have HF : Hid (R = false) := Lib.hid (by
            obtain ⟨h1, h2, e1, e2⟩ := HE.out
            rw [← H.out.2.2.2.2]
            exact decide_eq_false (ne_at h1 h2 (fun e => hxy (by rw [← e1, ← e2, e]))))
          clear hix hiy hxy
          go_wp2_with fail
          go_region
          all_goals
            go_wp2_with fail
            refine bodyPost_ret (v := .bool false) (by simp [results, Tryz.results16, go_sem, *]) rfl ?_
            obtain ⟨h1, h2, h4, h5⟩ := HS.out
            exact ⟨by rw [HF.out], h5.drew⟩
      · obtain rfl : i = n := by omega
        have HF : Hid (R = true) := Lib.hid (by
          rw [← H.out.2.2.2.2]
          exact decide_eq_true (take_eq H.out.2.2.1 H.out.2.2.2.1 htk rfl))
        have HB := Lib.hid hb
        clear hb htk
        go_wp2_with fail
        refine bodyPost_ret (v := .bool true) (by simp [results, Tryz.results16, go_sem, *]) rfl ?_
        exact ⟨by rw [HF.out], HB.out⟩
  · have t1 : ((n : Int) == m) = false := beqf (by omega)
    have t2 := bne_of t1
    have HF : Hid (R = false) := Lib.hid (by
      rw [← H.out.2.2.2.2]
      refine decide_eq_false (fun e => hnm ?_)
      rw [← H.out.2.2.1, ← H.out.2.2.2.1, e])
    clear hnm
    go_enter Tryz.func16, Tryz.ntmps16
    go_wp2_with fail
    refine bodyPost_ret (v := .bool false) (by simp [results, Tryz.results16, go_sem, *]) rfl ?_
    exact ⟨by rw [HF.out], Below.refl _ _⟩
end Go.Proofs.YtgcfjkfipkfijaaGreatDoor
