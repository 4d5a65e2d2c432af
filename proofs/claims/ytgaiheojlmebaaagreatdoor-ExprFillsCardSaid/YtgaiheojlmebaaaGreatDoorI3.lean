/- Plain law: a tree that is filled. No program in sight. Walks: a number as a tree. Walks: a number as the reference's tree. -/
import Derived.Test.YtgaiheojlmebaaaGreatDoorZ1
import Derived.Test.YtgaiheojlmebaaaGreatDoorR3
import Derived.Test.YtgaiheojlmebaaaGreatDoorF3
import Derived.Test.YtgaiheojlmebaaaGreatDoorH1
/-! Plain law: a tree that is filled. No program in sight. -/
namespace Go.Proofs.YtgaiheojlmebaaaGreatDoor
open Go Go.RowKit Go.Lib Go.Sort

/-- A number as a tree. -/
def numX (n : Int) : Ex :=
  if 0 ≤ n then .mk 0 n ⟨#[]⟩ [] else if n = -9223372036854775808 then node2 5 (node1 2 (.mk 0 9223372036854775807 ⟨#[]⟩ [])) (.mk 0 1 ⟨#[]⟩ []) else node1 2 (.mk 0 (-n) ⟨#[]⟩ [])
mutual
/-- A tree whose names have numbers. -/
def fillT (env : List Cel) : Ex → Ex
  | .mk op n nm ks => if op = 1 then (if (cellP nm env).2 then numX (cellP nm env).1 else .mk op n nm ks) else .mk op n nm (fillTs env ks)
def fillTs (env : List Cel) : List Ex → List Ex
  | [] => []
  | k :: ks => fillT env k :: fillTs env ks
end
theorem fillTs_nil (env : List Cel) : fillTs env [] = [] := by rw [fillTs]
theorem fillTs_cons (env : List Cel) (k : Ex) (ks : List Ex) : fillTs env (k :: ks) = fillT env k :: fillTs env ks := by rw [fillTs]
theorem fillTs_map (env : List Cel) : ∀ ks, fillTs env ks = ks.map (fillT env)
  | [] => by rw [fillTs]; rfl
  | k :: ks => by rw [fillTs, fillTs_map env ks]; rfl
/-- What Fill tells. -/
def fillP (e : Ex) (env : List Cel) : Ex × Int := if eMay e = false then (.mk 0 0 ⟨#[]⟩ [], 1) else if eMay (fillT env e) = false then (.mk 0 0 ⟨#[]⟩ [], 2) else (fillT env e, 0)

theorem num_ok {n : Int} (h : Fits n) : ExOk (numX n) := by
  have f0 : Fits 0 := ⟨by omega, by omega⟩
  have h0 : (⟨#[]⟩ : ByteArray).size ≤ 140737488355328 := Nat.zero_le _
  have hl : ∀ m, Fits m → ExOk (.mk 0 m ⟨#[]⟩ []) := fun m hm => .mk f0 hm h0 (fun k hk => by simp at hk)
  obtain ⟨ha, hb⟩ := h
  unfold numX
  split
  · exact hl n ⟨ha, hb⟩
  · have h1 : ∀ m, Fits m → ExOk (node1 2 (.mk 0 m ⟨#[]⟩ [])) := fun m hm => .mk ⟨by omega, by omega⟩ f0 h0 (fun k hk => by
      simp at hk
      subst hk
      exact hl m hm)
    split
    · refine .mk ⟨by omega, by omega⟩ f0 h0 (fun k hk => ?_)
      simp at hk
      rcases hk with rfl | rfl
      · exact h1 _ ⟨by omega, by omega⟩
      · exact hl _ ⟨by omega, by omega⟩
    · exact h1 _ ⟨by omega, by omega⟩
theorem num_n (n : Int) : ExN (numX n) := by
  have h0 : (⟨#[]⟩ : ByteArray).size ≤ 200 := Nat.zero_le _
  have hl : ∀ m, ExN (.mk 0 m ⟨#[]⟩ []) := fun m => .mk h0 (fun k hk => by simp at hk)
  unfold numX
  split
  · exact hl n
  · have h1 : ∀ m, ExN (node1 2 (.mk 0 m ⟨#[]⟩ [])) := fun m => .mk h0 (fun k hk => by
      simp at hk
      subst hk
      exact hl m)
    split
    · refine .mk h0 (fun k hk => ?_)
      simp at hk
      rcases hk with rfl | rfl
      · exact h1 _
      · exact hl _
    · exact h1 _
theorem num_names (n : Int) : nmE (numX n) = [] := by
  unfold numX node1 node2
  split
  · rw [nmE, if_neg (by omega), nmEs]
  · split <;> simp [nmE, nmEs]
theorem num_reck (env : List Cel) {n : Int} (h : Fits n) : eReck env (numX n) = (n, 0) := by
  obtain ⟨ha, hb⟩ := h
  have hl : ∀ m, eReck env (.mk 0 m ⟨#[]⟩ []) = (m, 0) := fun m => by rw [eReck.eq_def]; exact rfl
  have h1 : ∀ m, 0 ≤ m → m ≤ 9223372036854775807 → eReck env (node1 2 (.mk 0 m ⟨#[]⟩ [])) = (-m, 0) := fun m h0 hm => by
    unfold node1
    rw [eReck.eq_def]
    simp only
    rw [if_neg (by omega), if_neg (by omega), hl, if_neg (by simp), if_pos trivial]
    unfold chk
    rw [if_pos (by omega)]
  unfold numX
  split
  · exact hl n
  · split
    · subst n
      unfold node2
      rw [eReck.eq_def]
      simp only
      rw [if_neg (by omega), if_neg (by omega), h1 _ (by omega) (by omega), hl, if_neg (by simp), if_neg (by simp)]
      rfl
    · rw [h1 _ (by omega) (by omega), Int.neg_neg]

theorem cell_fits {env : List Cel} (h : ∀ c, c ∈ env → Fits c.n) (nm : ByteArray) : Fits (cellP nm env).1 := by
  induction env with
  | nil => exact ⟨by simp [cellP], by simp [cellP]⟩
  | cons c cs ih =>
    rw [cellP]
    split
    · exact h c (by simp)
    · exact ih (fun x hx => h x (by simp [hx]))
theorem fill_ok {env : List Cel} (he : ∀ c, c ∈ env → Fits c.n) (N : Nat) : ∀ e : Ex, SizeOf.sizeOf e < N → ExOk e → ExOk (fillT env e) := by
  induction N with
  | zero => exact fun _ h => absurd h (by omega)
  | succ N ih =>
    intro e hN hk
    obtain ⟨o, n, nm, ks⟩ := e
    rw [fillT]
    split
    · split
      · exact num_ok (cell_fits he nm)
      · exact hk
    · refine .mk hk.op hk.n hk.name (fun k hk' => ?_)
      rw [fillTs_map] at hk'
      obtain ⟨x, hx, rfl⟩ := List.mem_map.1 hk'
      have h7 : SizeOf.sizeOf x < SizeOf.sizeOf ks := List.sizeOf_lt_of_mem hx
      simp at hN
      exact ih x (by omega) (hk.kids x hx)
theorem fill_n (env : List Cel) (N : Nat) : ∀ e : Ex, SizeOf.sizeOf e < N → ExN e → ExN (fillT env e) := by
  induction N with
  | zero => exact fun _ h => absurd h (by omega)
  | succ N ih =>
    intro e hN hk
    obtain ⟨o, n, nm, ks⟩ := e
    rw [fillT]
    split
    · split
      · exact num_n _
      · exact hk
    · refine .mk hk.name (fun k hk' => ?_)
      rw [fillTs_map] at hk'
      obtain ⟨x, hx, rfl⟩ := List.mem_map.1 hk'
      have h7 : SizeOf.sizeOf x < SizeOf.sizeOf ks := List.sizeOf_lt_of_mem hx
      simp at hN
      exact ih x (by omega) (hk.kids x hx)
theorem fill_names (env : List Cel) (N : Nat) : (∀ e : Ex, SizeOf.sizeOf e < N → ExSh e → ∀ x, x ∈ nmE (fillT env e) → (cellP ⟨x.toArray⟩ env).2 = false) ∧
    (∀ ks : List Ex, SizeOf.sizeOf ks < N → (∀ k, k ∈ ks → ExSh k) → ∀ x, x ∈ nmEs (fillTs env ks) → (cellP ⟨x.toArray⟩ env).2 = false) := by
  induction N with
  | zero => exact ⟨fun _ h => absurd h (by omega), fun _ h => absurd h (by omega)⟩
  | succ N ih =>
    refine ⟨fun e hN hs x hx => ?_, fun ks hN hs x hx => ?_⟩
    · obtain ⟨o, n, nm, ks⟩ := e
      rw [fillT] at hx
      split at hx
      · split at hx
        · rw [num_names] at hx; simp at hx
        · rename_i h1 h2
          rw [nmE, if_pos h1] at hx
          obtain rfl : x = nm.data.toList := by simpa using hx
          have : (⟨nm.data.toList.toArray⟩ : ByteArray) = nm := by simp
          rw [this]
          simpa using h2
      · rename_i h1
        rw [nmE, if_neg h1] at hx
        refine ih.2 ks (by simp at hN; omega) ?_ x hx
        cases hs with
        | leaf h h2 => subst h2; exact fun k hk => by simp at hk
        | node _ _ _ h4 => exact h4
    · cases ks with
      | nil => rw [fillTs, nmEs] at hx; simp at hx
      | cons k ks =>
        rw [fillTs, nmEs] at hx
        rcases List.mem_append.1 hx with hx | hx
        · exact ih.1 k (by simp at hN; omega) (hs k (by simp)) x hx
        · exact ih.2 ks (by simp at hN; omega) (fun y hy => hs y (by simp [hy])) x hx
theorem fill_reck {env : List Cel} (he : ∀ c, c ∈ env → Fits c.n) (N : Nat) : ∀ e : Ex, SizeOf.sizeOf e < N → ExSh e → eReck env (fillT env e) = eReck env e := by
  induction N with
  | zero => exact fun _ h => absurd h (by omega)
  | succ N ih =>
    intro e hN hs
    cases hs with
    | @leaf op n nm ks h h2 =>
      subst h2
      rw [fillT]
      by_cases h1 : op = 1
      · rw [if_pos h1]
        by_cases hc : (cellP nm env).2 = true
        · rw [if_pos hc, num_reck env (cell_fits he nm)]
          rw [eReck.eq_def]
          simp only
          rw [if_neg (by omega), if_pos h1, if_pos hc]
        · rw [if_neg hc]
      · rw [if_neg h1, fillTs]
    | @node op n nm ks h1 h2 h3 h4 =>
      rw [fillT, if_neg (by omega), fillTs_map]
      have hih : ∀ k, k ∈ ks → eReck env (fillT env k) = eReck env k := fun k hk => by
        have h7 : SizeOf.sizeOf k < SizeOf.sizeOf ks := List.sizeOf_lt_of_mem hk
        simp at hN
        exact ih k (by omega) (h4 k hk)
      conv => lhs; rw [eReck.eq_def]
      conv => rhs; rw [eReck.eq_def]
      simp only
      rw [if_neg (by omega), if_neg (by omega), if_neg (by omega), if_neg (by omega)]
      match ks, hih with
      | [], _ => rfl
      | [a], hih => simp only [List.map_cons, List.map_nil]; rw [hih a (by simp)]
      | a :: b :: r, hih => simp only [List.map_cons]; rw [hih a (by simp), hih b (by simp)]
theorem fill_eval {e : Ex} {env : List Cel} (he : ∀ c, c ∈ env → Fits c.n) (h1 : eMay e = true) (h2 : eMay (fillT env e) = true) : eEval (fillT env e) env = eEval e env := by
  unfold eEval
  rw [h1, h2, if_pos rfl, if_pos rfl, fill_reck he (SizeOf.sizeOf e + 1) e (by omega) (sh_of_may h1)]
end Go.Proofs.YtgaiheojlmebaaaGreatDoor
/-! Walks: a number as a tree. -/
namespace Go.Proofs.YtgaiheojlmebaaaGreatDoor
open Go Go.RowKit Go.Lib

/-- What a function that makes a tree hands back. -/
def TreePost (t : Ex) (w : World) (r : Ending) (w' : World) : Prop := ∃ B d, r = .returned (exV t B d) ∧ ExF (fun k => k < w.heap.size) w' t B d ∧ Below w.heap.size w w'

set_option maxHeartbeats 4000000 in
set_option maxRecDepth 100000 in
theorem enum_pos (n : Int) (w : World) (h : 0 ≤ n) : Calls Tryz.prog 46 #[.int .i64 n] w fun r w' => r = .returned (exV (.mk 0 n ⟨#[]⟩ []) none 0) ∧ Below w.heap.size w w' := by
  go_enter Tryz.func46, Tryz.ntmps46
  go_wp2_with fail
  refine bodyPost_ret (v := exV (.mk 0 n ⟨#[]⟩ []) none 0) (by simp [results, Tryz.results46, go_sem, Ex.op, Ex.n, Ex.name, Ex.kids, *]) rfl ?_
  exact ⟨rfl, (Below.refl _ _).alloc (Nat.le_refl _) _⟩

/-- The cell of a result, made ahead. -/
abbrev zCell : Obj := .cells #[.int .i64 0, .int .i64 0, .string ⟨#[]⟩, .slice none 0 0] 24 (0, 0)

set_option maxHeartbeats 4000000 in
set_option maxRecDepth 100000 in
theorem enum_neg (n : Int) (w : World) (h : n < 0) (hn : -9223372036854775807 ≤ n) : Calls Tryz.prog 46 #[.int .i64 n] w (TreePost (node1 2 (.mk 0 (-n) ⟨#[]⟩ [])) w) := by
  have hb : (n == -9223372036854775808) = false := beqf (by omega)
  have HP : Hid (∀ W, Calls Tryz.prog 46 #[.int .i64 (-n)] W fun r w' => r = .returned (.agg #[.int .i64 0, .int .i64 (-n), .string ⟨#[]⟩, .slice none 0 0]) ∧ Below W.heap.size W w') := Lib.hid (fun W => enum_pos (-n) W (by omega))
  obtain ⟨w1, hw1⟩ : ∃ w', w.alloc zCell = w' := ⟨_, rfl⟩
  have hb1 : Below w.heap.size w w1 := hw1 ▸ (Below.refl _ _).alloc (Nat.le_refl _) _
  have hq1 : w1.heap[w.heap.size]? = some zCell := hw1 ▸ heap_alloc_new _ _
  obtain ⟨K, hK⟩ : ∃ K, w.heap.size = K := ⟨_, rfl⟩
  have HK := Lib.hid hK
  rw [hK] at hq1
  have HB1 := Lib.hid hb1
  have HQ1 := Lib.hid hq1
  have HW1 := Lib.hid hw1
  clear hw1 hb1 hq1
  go_enter Tryz.func46, Tryz.ntmps46
  go_wp2_with fail
  clear hK
  rw [HW1.out]
  refine (HP.out w1).mono ?_
  rintro r w2 ⟨rfl, hb2⟩
  have HB2 := Lib.hid (HB1.out.trans (hb2.mono HB1.out.size))
  have HQ2 := Lib.hid ((hb2.block K (blk_lt HQ1.out)).trans HQ1.out)
  clear hb2
  go_wp2_with fail
  obtain ⟨w3, hw3⟩ : ∃ w', w2.alloc (.cells #[.int .i64 0, .int .i64 (-n), .string ⟨#[]⟩, .slice none 0 0] 24 (0, 0)) = w' := ⟨_, rfl⟩
  have hb3 : Below w2.heap.size w2 w3 := hw3 ▸ (Below.refl _ _).alloc (Nat.le_refl _) _
  have hq3 : w3.heap[w2.heap.size]? = some (.cells #[.int .i64 0, .int .i64 (-n), .string ⟨#[]⟩, .slice none 0 0] 24 (0, 0)) := hw3 ▸ heap_alloc_new _ _
  obtain ⟨N, hN⟩ : ∃ N, w2.heap.size = N := ⟨_, rfl⟩
  have hKN : K < N := by rw [← hN]; exact blk_lt HQ2.out
  rw [hw3]
  rw [hN] at hq3 ⊢
  have HB3 := Lib.hid (HB2.out.trans (hb3.mono HB2.out.size))
  have HQ3 := Lib.hid ((hb3.block K (blk_lt HQ2.out)).trans HQ2.out)
  have HN3 := Lib.hid hq3
  clear hw3 hb3 hq3 hN
  refine (node_any 2 _ 1 1 _).mono ?_
  rintro r w4 ⟨rfl, hb4⟩
  have HB4 := Lib.hid (HB3.out.trans (hb4.mono HB3.out.size))
  have HQ4 := Lib.hid ((hb4.block K (blk_lt HQ3.out)).trans HQ3.out)
  have HN4 := Lib.hid ((hb4.block N (blk_lt HN3.out)).trans HN3.out)
  obtain ⟨⟨k0, k1, k2, k3⟩, g0, g1, g2, g3⟩ := blk4 HQ4.out
  have hlK := blk_lt HQ4.out
  clear hb4
  go_wp2_with fail
  refine bodyPost_ret (v := exV (node1 2 (.mk 0 (-n) ⟨#[]⟩ [])) (some ⟨N, 0, none⟩) 1) (by simp [results, Tryz.results46, go_sem, node1, Ex.op, Ex.n, Ex.name, Ex.kids, *]) rfl ?_
  have hx : ExF (fun k => k ≤ K) w4 (node1 2 (.mk 0 (-n) ⟨#[]⟩ [])) (some ⟨N, 0, none⟩) 1 := ExF.one (by omega) (ExF.leaf (e := .mk 0 (-n) ⟨#[]⟩ []) rfl) HN4.out 2
  have hs := same_set4 w4 K (.int .i64 2) (.int .i64 0) (.string ⟨#[]⟩) (.slice (some ⟨N, 0, none⟩) 1 1)
  exact ⟨some ⟨N, 0, none⟩, 1, rfl, (hx.keep hs (fun k hk => by simp at hk; omega)).more (fun k hk => .inl (by have := HK.out; omega)), below_set4' HB4.out (by have := HK.out; omega) _ _ _ _⟩

set_option maxHeartbeats 4000000 in
set_option maxRecDepth 100000 in
theorem enum_least (w : World) : Calls Tryz.prog 46 #[.int .i64 (-9223372036854775808)] w (TreePost (node2 5 (node1 2 (.mk 0 9223372036854775807 ⟨#[]⟩ [])) (.mk 0 1 ⟨#[]⟩ [])) w) := by
  have HP : Hid (∀ W, Calls Tryz.prog 46 #[.int .i64 1] W fun r w' => r = .returned (.agg #[.int .i64 0, .int .i64 1, .string ⟨#[]⟩, .slice none 0 0]) ∧ Below W.heap.size W w') := Lib.hid (fun W => enum_pos 1 W (by omega))
  have HM := Lib.hid (fun W => enum_neg (-9223372036854775807) W (by omega) (by omega))
  obtain ⟨t, ht⟩ : ∃ t, node1 2 (.mk 0 9223372036854775807 ⟨#[]⟩ []) = t := ⟨_, rfl⟩
  have ht' : node1 2 (.mk 0 (-(-9223372036854775807)) ⟨#[]⟩ []) = t := ht
  rw [ht'] at HM
  rw [ht]
  obtain ⟨w1, hw1⟩ : ∃ w', w.alloc zCell = w' := ⟨_, rfl⟩
  have hb1 : Below w.heap.size w w1 := hw1 ▸ (Below.refl _ _).alloc (Nat.le_refl _) _
  have hq1 : w1.heap[w.heap.size]? = some zCell := hw1 ▸ heap_alloc_new _ _
  obtain ⟨K, hK⟩ : ∃ K, w.heap.size = K := ⟨_, rfl⟩
  have HK := Lib.hid hK
  rw [hK] at hq1
  have HB1 := Lib.hid hb1
  have HQ1 := Lib.hid hq1
  have HW1 := Lib.hid hw1
  clear hw1 hb1 hq1 ht ht'
  go_enter Tryz.func46, Tryz.ntmps46
  go_wp2_with fail
  clear hK
  rw [HW1.out]
  refine (HM.out w1).mono ?_
  rintro r w2 ⟨B, d, rfl, hx2, hb2⟩
  have HB2 := Lib.hid (HB1.out.trans (hb2.mono HB1.out.size))
  have HQ2 := Lib.hid ((hb2.block K (blk_lt HQ1.out)).trans HQ1.out)
  have HX2 := Lib.hid hx2
  have hK1 := blk_lt HQ1.out
  clear hb2 hx2
  go_wp2_with fail
  refine (HP.out w2).mono ?_
  rintro r w3 ⟨rfl, hb3⟩
  have HB3 := Lib.hid (HB2.out.trans (hb3.mono HB2.out.size))
  have HQ3 := Lib.hid ((hb3.block K (blk_lt HQ2.out)).trans HQ2.out)
  have HX3 := Lib.hid (HX2.out.below hb3)
  clear hb3
  go_wp2_with fail
  obtain ⟨w4, hw4⟩ : ∃ w', w3.alloc (.cells #[.int .i64 t.op, .int .i64 t.n, .string t.name, .slice B t.kids.length d, .int .i64 0, .int .i64 1, .string ⟨#[]⟩, .slice none 0 0] 24 (0, 0)) = w' := ⟨_, rfl⟩
  have hb4 : Below w3.heap.size w3 w4 := hw4 ▸ (Below.refl _ _).alloc (Nat.le_refl _) _
  have hq4 : w4.heap[w3.heap.size]? = some (.cells #[.int .i64 t.op, .int .i64 t.n, .string t.name, .slice B t.kids.length d, .int .i64 0, .int .i64 1, .string ⟨#[]⟩, .slice none 0 0] 24 (0, 0)) := hw4 ▸ heap_alloc_new _ _
  obtain ⟨N, hN⟩ : ∃ N, w3.heap.size = N := ⟨_, rfl⟩
  have hKN : K < N := by rw [← hN]; exact blk_lt HQ3.out
  rw [hw4]
  rw [hN] at hq4 ⊢
  have HB4 := Lib.hid (HB3.out.trans (hb4.mono HB3.out.size))
  have HQ4 := Lib.hid ((hb4.block K (blk_lt HQ3.out)).trans HQ3.out)
  have HX4 := Lib.hid (HX3.out.below hb4)
  have HN4 := Lib.hid hq4
  clear hw4 hb4 hq4 hN
  refine (node_any 5 _ 2 2 _).mono ?_
  rintro r w5 ⟨rfl, hb5⟩
  have HB5 := Lib.hid (HB4.out.trans (hb5.mono HB4.out.size))
  have HQ5 := Lib.hid ((hb5.block K (blk_lt HQ4.out)).trans HQ4.out)
  have HN5 := Lib.hid ((hb5.block N (blk_lt HN4.out)).trans HN4.out)
  have HX5 := Lib.hid (HX4.out.below hb5)
  obtain ⟨⟨k0, k1, k2, k3⟩, g0, g1, g2, g3⟩ := blk4 HQ5.out
  have hlK := blk_lt HQ5.out
  clear hb5
  go_wp2_with fail
  refine bodyPost_ret (v := exV (node2 5 t (.mk 0 1 ⟨#[]⟩ [])) (some ⟨N, 0, none⟩) 2) (by simp [results, Tryz.results46, go_sem, node2, Ex.op, Ex.n, Ex.name, Ex.kids, *]) rfl ?_
  have hx : ExF (fun k => k ≤ K) w5 (node2 5 t (.mk 0 1 ⟨#[]⟩ [])) (some ⟨N, 0, none⟩) 2 := ExF.two (by omega) (HX5.out.more (fun k hk => .inl (by omega))) (ExF.leaf (e := .mk 0 1 ⟨#[]⟩ []) rfl) HN5.out 5
  have hs := same_set4 w5 K (.int .i64 5) (.int .i64 0) (.string ⟨#[]⟩) (.slice (some ⟨N, 0, none⟩) 2 2)
  exact ⟨some ⟨N, 0, none⟩, 2, rfl, (hx.keep hs (fun k hk => by simp at hk; omega)).more (fun k hk => .inl (by have := HK.out; omega)), below_set4' HB5.out (by have := HK.out; omega) _ _ _ _⟩
theorem enum_any (n : Int) (w : World) (h : Fits n) : Calls Tryz.prog 46 #[.int .i64 n] w (TreePost (numX n) w) := by
  obtain ⟨h1, h2⟩ := h
  unfold numX
  split
  · refine (enum_pos n w (by omega)).mono ?_
    rintro r w' ⟨rfl, hb⟩
    exact ⟨none, 0, rfl, ExF.leaf rfl, hb⟩
  · split
    · subst n
      exact enum_least w
    · exact enum_neg n w (by omega) (by omega)
end Go.Proofs.YtgaiheojlmebaaaGreatDoor
/-! Walks: a number as the reference's tree. -/
namespace Go.Proofs.YtgaiheojlmebaaaGreatDoor
open Go Go.RowKit Go.Lib

set_option maxHeartbeats 4000000 in
set_option maxRecDepth 100000 in
theorem xnum_pos (n : Int) (w : World) (h : 0 ≤ n) : Calls Tryz.prog 47 #[.int .i64 n] w fun r w' => r = .returned (exV (.mk 0 n ⟨#[]⟩ []) none 0) ∧ Below w.heap.size w w' := by
  go_enter Tryz.func47, Tryz.ntmps47
  go_wp2_with fail
  refine bodyPost_ret (v := exV (.mk 0 n ⟨#[]⟩ []) none 0) (by simp [results, Tryz.results47, go_sem, Ex.op, Ex.n, Ex.name, Ex.kids, *]) rfl ?_
  exact ⟨rfl, (Below.refl _ _).alloc (Nat.le_refl _) _⟩

set_option maxHeartbeats 4000000 in
set_option maxRecDepth 100000 in
theorem xnum_neg (n : Int) (w : World) (h : n < 0) (hn : -9223372036854775807 ≤ n) : Calls Tryz.prog 47 #[.int .i64 n] w (TreePost (node1 2 (.mk 0 (-n) ⟨#[]⟩ [])) w) := by
  have hb : (n == -9223372036854775808) = false := beqf (by omega)
  go_enter Tryz.func47, Tryz.ntmps47
  go_wp2_with fail
  refine bodyPost_ret (v := exV (node1 2 (.mk 0 (-n) ⟨#[]⟩ [])) (some ⟨w.heap.size + 1, 0, none⟩) 1) (by simp [results, Tryz.results47, go_sem, node1, Ex.op, Ex.n, Ex.name, Ex.kids, *]) rfl ?_
  obtain ⟨w1, hw1⟩ : ∃ w', w.alloc (.cells #[.int .i64 2, .int .i64 0, .string ⟨#[]⟩, .slice (some ⟨w.heap.size + 1, 0, none⟩) 1 1] 24 (0, 0)) = w' := ⟨_, rfl⟩
  have hb1 : Below w.heap.size w w1 := hw1 ▸ (Below.refl _ _).alloc (Nat.le_refl _) _
  have hs1 : w1.heap.size = w.heap.size + 1 := by rw [← hw1]; simp
  have hq := heap_alloc_new w1 (.cells #[.int .i64 0, .int .i64 (-n), .string ⟨#[]⟩, .slice none 0 0] 24 (0, 0))
  rw [hs1] at hq
  rw [hw1]
  exact ⟨some ⟨w.heap.size + 1, 0, none⟩, 1, rfl, ExF.one (by omega) (ExF.leaf (e := .mk 0 (-n) ⟨#[]⟩ []) rfl) hq 2, hb1.alloc hb1.size _⟩

set_option maxHeartbeats 4000000 in
set_option maxRecDepth 100000 in
theorem xnum_least (w : World) : Calls Tryz.prog 47 #[.int .i64 (-9223372036854775808)] w (TreePost (node2 5 (node1 2 (.mk 0 9223372036854775807 ⟨#[]⟩ [])) (.mk 0 1 ⟨#[]⟩ [])) w) := by
  have HP : Hid (∀ W, Calls Tryz.prog 47 #[.int .i64 1] W fun r w' => r = .returned (.agg #[.int .i64 0, .int .i64 1, .string ⟨#[]⟩, .slice none 0 0]) ∧ Below W.heap.size W w') := Lib.hid (fun W => xnum_pos 1 W (by omega))
  have HM := Lib.hid (fun W => xnum_neg (-9223372036854775807) W (by omega) (by omega))
  obtain ⟨t, ht⟩ : ∃ t, node1 2 (.mk 0 9223372036854775807 ⟨#[]⟩ []) = t := ⟨_, rfl⟩
  have ht' : node1 2 (.mk 0 (-(-9223372036854775807)) ⟨#[]⟩ []) = t := ht
  rw [ht'] at HM
  rw [ht]
  obtain ⟨w1, hw1⟩ : ∃ w', w.alloc zCell = w' := ⟨_, rfl⟩
  have hb1 : Below w.heap.size w w1 := hw1 ▸ (Below.refl _ _).alloc (Nat.le_refl _) _
  have hq1 : w1.heap[w.heap.size]? = some zCell := hw1 ▸ heap_alloc_new _ _
  obtain ⟨K, hK⟩ : ∃ K, w.heap.size = K := ⟨_, rfl⟩
  have HK := Lib.hid hK
  rw [hK] at hq1
  have HB1 := Lib.hid hb1
  have HQ1 := Lib.hid hq1
  have HW1 := Lib.hid hw1
  clear hw1 hb1 hq1 ht ht'
  go_enter Tryz.func47, Tryz.ntmps47
  go_wp2_with fail
  clear hK
  rw [HW1.out]
  refine (HM.out w1).mono ?_
  rintro r w2 ⟨B, d, rfl, hx2, hb2⟩
  have HB2 := Lib.hid (HB1.out.trans (hb2.mono HB1.out.size))
  have HQ2 := Lib.hid ((hb2.block K (blk_lt HQ1.out)).trans HQ1.out)
  have HX2 := Lib.hid hx2
  have hK1 := blk_lt HQ1.out
  clear hb2 hx2
  go_wp2_with fail
  refine (HP.out w2).mono ?_
  rintro r w3 ⟨rfl, hb3⟩
  have HB3 := Lib.hid (HB2.out.trans (hb3.mono HB2.out.size))
  have HQ3 := Lib.hid ((hb3.block K (blk_lt HQ2.out)).trans HQ2.out)
  have HX3 := Lib.hid (HX2.out.below hb3)
  clear hb3
  obtain ⟨⟨k0, k1, k2, k3⟩, g0, g1, g2, g3⟩ := blk4 HQ3.out
  have hlK := blk_lt HQ3.out
  go_wp2_with fail
  obtain ⟨N, hN⟩ : ∃ N, w3.heap.size = N := ⟨_, rfl⟩
  have hs := same_set4 w3 K (.int .i64 5) (.int .i64 0) (.string ⟨#[]⟩) (.slice (some ⟨N, 0, none⟩) 2 2)
  have hb4 := below_set4' HB3.out (k := K) (by have := HK.out; omega) (.int .i64 5) (.int .i64 0) (.string ⟨#[]⟩) (.slice (some ⟨N, 0, none⟩) 2 2)
  have hq4 := blk_set4 HQ3.out (.int .i64 5) (.int .i64 0) (.string ⟨#[]⟩) (.slice (some ⟨N, 0, none⟩) 2 2)
  have hn4 : ((((w3.setCell ⟨K, 0, none⟩ (.int .i64 5)).setCell ⟨K, 1, none⟩ (.int .i64 0)).setCell ⟨K, 2, none⟩ (.string ⟨#[]⟩)).setCell ⟨K, 3, none⟩ (.slice (some ⟨N, 0, none⟩) 2 2)).heap.size = N := by simp [World.setCell, hN]
  rw [hN] at hlK ⊢
  generalize (((w3.setCell ⟨K, 0, none⟩ (.int .i64 5)).setCell ⟨K, 1, none⟩ (.int .i64 0)).setCell ⟨K, 2, none⟩ (.string ⟨#[]⟩)).setCell ⟨K, 3, none⟩ (.slice (some ⟨N, 0, none⟩) 2 2) = w4 at hs hb4 hq4 hn4 ⊢
  have hq := heap_alloc_new w4 (.cells #[.int .i64 t.op, .int .i64 t.n, .string t.name, .slice B t.kids.length d, .int .i64 0, .int .i64 1, .string ⟨#[]⟩, .slice none 0 0] 24 (0, 0))
  rw [hn4] at hq
  have hb5 : Below w4.heap.size w4 (w4.alloc (.cells #[.int .i64 t.op, .int .i64 t.n, .string t.name, .slice B t.kids.length d, .int .i64 0, .int .i64 1, .string ⟨#[]⟩, .slice none 0 0] 24 (0, 0))) := (Below.refl _ _).alloc (Nat.le_refl _) _
  have hx := ((HX3.out.more (Q := fun k => k ≤ K) (fun k hk => .inl (by omega))).keep hs (fun k hk => by simp at hk; omega)).below hb5
  refine bodyPost_ret (v := exV (node2 5 t (.mk 0 1 ⟨#[]⟩ [])) (some ⟨N, 0, none⟩) 2) (by obtain ⟨⟨k0, k1, k2, k3⟩, g0, g1, g2, g3⟩ := blk4 hq4; have hlt := blk_lt hq4; simp [results, Tryz.results47, go_sem, node2, Ex.op, Ex.n, Ex.name, Ex.kids, *]) rfl ?_
  exact ⟨some ⟨N, 0, none⟩, 2, rfl, (ExF.two (P := fun k => k ≤ K) (by omega) hx (ExF.leaf (e := .mk 0 1 ⟨#[]⟩ []) rfl) hq 5).more (fun k hk => .inl (by have := HK.out; omega)), hb4.alloc hb4.size _⟩
theorem xnum_any (n : Int) (w : World) (h : Fits n) : Calls Tryz.prog 47 #[.int .i64 n] w (TreePost (numX n) w) := by
  obtain ⟨h1, h2⟩ := h
  unfold numX
  split
  · refine (xnum_pos n w (by omega)).mono ?_
    rintro r w' ⟨rfl, hb⟩
    exact ⟨none, 0, rfl, ExF.leaf rfl, hb⟩
  · split
    · subst n
      exact xnum_least w
    · exact xnum_neg n w (by omega) (by omega)
end Go.Proofs.YtgaiheojlmebaaaGreatDoor
