/- Walks: Fill. The law that any tree is filled as the document says, and comes to the same: the walk. -/
import Derived.Test.YtgaiheojlmebaaaGreatDoorI5
import Derived.Test.YtgaiheojlmebaaaGreatDoorZ5
import Derived.Test.YtgaiheojlmebaaaGreatDoorH1
/-! Walks: Fill. -/
namespace Go.Proofs.YtgaiheojlmebaaaGreatDoor
open Go Go.RowKit Go.Lib

/-- What Fill hands back. -/
def FillPost (p : Ex × Int) (w : World) (r : Ending) (w' : World) : Prop := ∃ B d, r = .returned (.tuple #[exV p.1 B d, .int .i64 p.2]) ∧ ExF (fun k => k < w.heap.size) w' p.1 B d ∧ Below w.heap.size w w'

set_option maxHeartbeats 8000000 in
set_option maxRecDepth 100000 in
theorem eFill_any (e : Ex) (A : Option Addr) (c : Nat) (env : List Cel) (EA : Option Addr) (ec : Nat) (w : World) (hr : exK.Row [] w A e.kids) (hlc : e.kids.length ≤ c) (hk : ExOk e) (he : celK.Row [] w EA env) (hle : env.length ≤ ec) (hf : ∀ c, c ∈ env → Fits c.n) (hT : Tabs w) :
    Calls Tryz.prog 14 #[exV e A c, .slice EA env.length ec] w (FillPost (fillP e env) w) := by
  have HM := Lib.hid (fun W h h2 => may_any e A c W h hlc hk h2)
  obtain ⟨w1, hw1⟩ : ∃ w', (w.alloc (.cells #[.int .i64 e.op, .int .i64 e.n, .string e.name, .slice A e.kids.length c] 24 (0, 0))).alloc (.cells #[.int .i64 0, .int .i64 0, .string ⟨#[]⟩, .slice none 0 0] 24 (0, 0)) = w' := ⟨_, rfl⟩
  have hb1 : Below w.heap.size w w1 := hw1 ▸ ((Below.refl _ _).alloc (Nat.le_refl _) _).alloc (by simp) _
  obtain ⟨K, hK⟩ : ∃ K, w.heap.size = K := ⟨_, rfl⟩
  have hq1 : ExB w1 K e A c := by
    rw [← hw1, ← hK]
    exact (((Below.refl _ _).alloc (Nat.le_refl _) _).block w.heap.size (by simp)).trans (heap_alloc_new _ _)
  have hz1 : w1.heap[K + 1]? = some zCell := by
    have := heap_alloc_new (w.alloc (.cells #[.int .i64 e.op, .int .i64 e.n, .string e.name, .slice A e.kids.length c] 24 (0, 0))) zCell
    rw [← hw1, ← hK]
    simpa using this
  have HK := Lib.hid hK
  have HB1 := Lib.hid hb1
  have HQ1 := Lib.hid hq1
  have HZ1 := Lib.hid hz1
  have HW1 := Lib.hid hw1
  have HE1 := Lib.hid (he.keep (Same.of_below (M := []) hb1))
  have HR1 := Lib.hid (hr.keep (Same.of_below (M := []) hb1))
  have HT1 := Lib.hid (hT.below hb1)
  obtain ⟨k0, k1, k2, k3⟩ := hq1.cells
  have hlK := blk_lt hq1
  cases hm : eMay e
  · have HX : Hid (fillP e env = (.mk 0 0 ⟨#[]⟩ [], 1)) := Lib.hid (by unfold fillP; rw [if_pos hm])
    rw [hm] at HM
    clear hw1 hb1 hq1 hz1 he hr hT hm
    go_enter Tryz.func14, Tryz.ntmps14
    go_wp2_with fail
    clear hK
    rw [HW1.out]
    refine (HM.out w1 HR1.out HT1.out).mono ?_
    rintro r w2 ⟨rfl, hb2⟩
    have HB2 := Lib.hid (HB1.out.trans (hb2.mono HB1.out.size))
    have HZ2 := Lib.hid ((hb2.block (K + 1) (blk_lt HZ1.out)).trans HZ1.out)
    clear hb2 k0 k1 k2 k3 hlK
    obtain ⟨⟨z0, z1, z2, z3⟩, g0, g1, g2, g3⟩ := blk4 HZ2.out
    have hlZ := blk_lt HZ2.out
    go_wp2_with fail
    refine bodyPost_ret (v := .tuple #[exV (.mk 0 0 ⟨#[]⟩ []) none 0, .int .i64 1]) (by simp [results, Tryz.results14, go_sem, Ex.op, Ex.n, Ex.name, Ex.kids, *]) rfl ?_
    rw [HX.out]
    exact ⟨none, 0, rfl, ExF.leaf rfl, below_set4' HB2.out (by have := HK.out; omega) _ _ _ _⟩
  · have HFL := Lib.hid (fun W h h2 => efill_any env EA ec hle hf (SizeOf.sizeOf e + 1) e A c W (by omega) (sh_of_may hm) h hlc h2)
    have hkx := fill_ok hf (SizeOf.sizeOf e + 1) e (by omega) hk
    have HMX := Lib.hid (fun B d W h h2 h3 => may_any (fillT env e) B d W h h2 hkx h3)
    have HX : Hid (fillP e env = if eMay (fillT env e) = false then (.mk 0 0 ⟨#[]⟩ [], 2) else (fillT env e, 0)) := Lib.hid (by unfold fillP; rw [if_neg (by rw [hm]; simp)])
    obtain ⟨x, hx⟩ : ∃ x, fillT env e = x := ⟨_, rfl⟩
    obtain ⟨b, hb⟩ : ∃ b, eMay x = b := ⟨_, rfl⟩
    rw [hx] at HFL HMX HX
    rw [hb] at HMX HX
    rw [hm] at HM
    clear hw1 hb1 hq1 hz1 he hr hT hm hkx hx hb
    go_enter Tryz.func14, Tryz.ntmps14
    go_wp2_with fail
    clear hK
    rw [HW1.out]
    refine (HM.out w1 HR1.out HT1.out).mono ?_
    rintro r w2 ⟨rfl, hb2⟩
    have HB2 := Lib.hid (HB1.out.trans (hb2.mono HB1.out.size))
    have HZ2 := Lib.hid ((hb2.block (K + 1) (blk_lt HZ1.out)).trans HZ1.out)
    have HQ2 := Lib.hid (HQ1.out.step hb2)
    have HE2 := Lib.hid (HE1.out.keep (Same.of_below (M := []) hb2))
    have HR2 := Lib.hid (HR1.out.keep (Same.of_below (M := []) hb2))
    have HT2 := Lib.hid (HT1.out.below hb2)
    clear hb2 k0 k1 k2 k3 hlK
    obtain ⟨k0, k1, k2, k3⟩ := HQ2.out.cells
    have hlK := blk_lt HQ2.out
    go_wp2_with fail
    refine (HFL.out w2 HR2.out HE2.out).mono ?_
    rintro r w3 ⟨B, d, rfl, hx3, hb3⟩
    have HB3 := Lib.hid (HB2.out.trans (hb3.mono HB2.out.size))
    have HZ3 := Lib.hid ((hb3.block (K + 1) (blk_lt HZ2.out)).trans HZ2.out)
    have HT3 := Lib.hid (HT2.out.below hb3)
    have HX3 := Lib.hid (hx3.more (Q := fun k => k ≤ K + 1) (fun k hk => .inl (by have := blk_lt HZ2.out; omega)))
    clear hb3 hx3 k0 k1 k2 k3 hlK
    go_wp2_with fail
    obtain ⟨w4, hw4⟩ : ∃ w', w3.alloc (.cells #[.int .i64 x.op, .int .i64 x.n, .string x.name, .slice B x.kids.length d] 24 (0, 0)) = w' := ⟨_, rfl⟩
    have hb4 : Below w3.heap.size w3 w4 := hw4 ▸ (Below.refl _ _).alloc (Nat.le_refl _) _
    have hq4 : ExB w4 w3.heap.size x B d := hw4 ▸ heap_alloc_new _ _
    obtain ⟨N, hN⟩ : ∃ N, w3.heap.size = N := ⟨_, rfl⟩
    rw [hw4, hN]
    rw [hN] at hq4
    have HQ4 := Lib.hid hq4
    have HB4 := Lib.hid (HB3.out.trans (hb4.mono HB3.out.size))
    have HZ4 := Lib.hid ((hb4.block (K + 1) (blk_lt HZ3.out)).trans HZ3.out)
    have HT4 := Lib.hid (HT3.out.below hb4)
    have HX4 := Lib.hid (HX3.out.below hb4)
    clear hb4 hq4 hw4 hN
    refine (HMX.out B d w4 HX4.out.row HX4.out.1 HT4.out).mono ?_
    rintro r w5 ⟨rfl, hb5⟩
    have HB5 := Lib.hid (HB4.out.trans (hb5.mono HB4.out.size))
    have HZ5 := Lib.hid ((hb5.block (K + 1) (blk_lt HZ4.out)).trans HZ4.out)
    have HX5 := Lib.hid (HX4.out.below hb5)
    have HQ5 := Lib.hid (HQ4.out.step hb5)
    obtain ⟨n0, n1, n2, n3⟩ := HQ5.out.cells
    have hlN := blk_lt HQ5.out
    obtain ⟨⟨z0, z1, z2, z3⟩, g0, g1, g2, g3⟩ := blk4 HZ5.out
    have hlZ := blk_lt HZ5.out
    clear hb5
    cases b
    · go_wp2_with fail
      refine bodyPost_ret (v := .tuple #[exV (.mk 0 0 ⟨#[]⟩ []) none 0, .int .i64 2]) (by simp [results, Tryz.results14, go_sem, Ex.op, Ex.n, Ex.name, Ex.kids, *]) rfl ?_
      rw [HX.out, if_pos trivial]
      exact ⟨none, 0, rfl, ExF.leaf rfl, below_set4' HB5.out (by have := HK.out; omega) _ _ _ _⟩
    · go_wp2_with fail
      refine bodyPost_ret (v := .tuple #[exV x B d, .int .i64 0]) (by simp [results, Tryz.results14, go_sem, *]) rfl ?_
      rw [HX.out, if_neg (by simp)]
      have hs := same_set4 w5 (K + 1) (.int .i64 x.op) (.int .i64 x.n) (.string x.name) (.slice B x.kids.length d)
      exact ⟨B, d, rfl, (HX5.out.keep hs (fun k hk => by simp at hk; omega)).more (fun k hk => .inl (by have := HK.out; omega)), below_set4' HB5.out (by have := HK.out; omega) _ _ _ _⟩

set_option maxHeartbeats 8000000 in
set_option maxRecDepth 100000 in
theorem xFill_any (e : Ex) (A : Option Addr) (c : Nat) (env : List Cel) (EA : Option Addr) (ec : Nat) (w : World) (hr : exK.Row [] w A e.kids) (hlc : e.kids.length ≤ c) (he : celK.Row [] w EA env) (hle : env.length ≤ ec) (hf : ∀ c, c ∈ env → Fits c.n) (hn : ExN e) :
    Calls Tryz.prog 15 #[exV e A c, .slice EA env.length ec] w (FillPost (fillP e env) w) := by
  have HM := Lib.hid (fun W h => xmay_any e A c W h hlc hn)
  obtain ⟨w1, hw1⟩ : ∃ w', (w.alloc (.cells #[.int .i64 e.op, .int .i64 e.n, .string e.name, .slice A e.kids.length c] 24 (0, 0))).alloc (.cells #[.int .i64 0, .int .i64 0, .string ⟨#[]⟩, .slice none 0 0] 24 (0, 0)) = w' := ⟨_, rfl⟩
  have hb1 : Below w.heap.size w w1 := hw1 ▸ ((Below.refl _ _).alloc (Nat.le_refl _) _).alloc (by simp) _
  obtain ⟨K, hK⟩ : ∃ K, w.heap.size = K := ⟨_, rfl⟩
  have hq1 : ExB w1 K e A c := by
    rw [← hw1, ← hK]
    exact (((Below.refl _ _).alloc (Nat.le_refl _) _).block w.heap.size (by simp)).trans (heap_alloc_new _ _)
  have hz1 : w1.heap[K + 1]? = some zCell := by
    have := heap_alloc_new (w.alloc (.cells #[.int .i64 e.op, .int .i64 e.n, .string e.name, .slice A e.kids.length c] 24 (0, 0))) zCell
    rw [← hw1, ← hK]
    simpa using this
  have HK := Lib.hid hK
  have HB1 := Lib.hid hb1
  have HQ1 := Lib.hid hq1
  have HZ1 := Lib.hid hz1
  have HW1 := Lib.hid hw1
  have HE1 := Lib.hid (he.keep (Same.of_below (M := []) hb1))
  have HR1 := Lib.hid (hr.keep (Same.of_below (M := []) hb1))
  obtain ⟨k0, k1, k2, k3⟩ := hq1.cells
  have hlK := blk_lt hq1
  cases hm : eMay e
  · have HX : Hid (fillP e env = (.mk 0 0 ⟨#[]⟩ [], 1)) := Lib.hid (by unfold fillP; rw [if_pos hm])
    rw [hm] at HM
    clear hw1 hb1 hq1 hz1 he hr hm
    go_enter Tryz.func15, Tryz.ntmps15
    go_wp2_with fail
    clear hK
    rw [HW1.out]
    refine (HM.out w1 HR1.out).mono ?_
    rintro r w2 ⟨rfl, hb2⟩
    have HB2 := Lib.hid (HB1.out.trans (hb2.mono HB1.out.size))
    have HZ2 := Lib.hid ((hb2.block (K + 1) (blk_lt HZ1.out)).trans HZ1.out)
    clear hb2 k0 k1 k2 k3 hlK
    obtain ⟨⟨z0, z1, z2, z3⟩, g0, g1, g2, g3⟩ := blk4 HZ2.out
    have hlZ := blk_lt HZ2.out
    go_wp2_with fail
    refine bodyPost_ret (v := .tuple #[exV (.mk 0 0 ⟨#[]⟩ []) none 0, .int .i64 1]) (by simp [results, Tryz.results15, go_sem, Ex.op, Ex.n, Ex.name, Ex.kids, *]) rfl ?_
    rw [HX.out]
    exact ⟨none, 0, rfl, ExF.leaf rfl, below_set4' HB2.out (by have := HK.out; omega) _ _ _ _⟩
  · have HFL := Lib.hid (fun W h h2 => xfill_any env EA ec hle hf (SizeOf.sizeOf e + 1) e A c W (by omega) (sh_of_may hm) h hlc h2)
    have hkx := fill_n env (SizeOf.sizeOf e + 1) e (by omega) hn
    have HMX := Lib.hid (fun B d W h h2 => xmay_any (fillT env e) B d W h h2 hkx)
    have HX : Hid (fillP e env = if eMay (fillT env e) = false then (.mk 0 0 ⟨#[]⟩ [], 2) else (fillT env e, 0)) := Lib.hid (by unfold fillP; rw [if_neg (by rw [hm]; simp)])
    obtain ⟨x, hx⟩ : ∃ x, fillT env e = x := ⟨_, rfl⟩
    obtain ⟨b, hb⟩ : ∃ b, eMay x = b := ⟨_, rfl⟩
    rw [hx] at HFL HMX HX
    rw [hb] at HMX HX
    rw [hm] at HM
    clear hw1 hb1 hq1 hz1 he hr hm hkx hx hb
    go_enter Tryz.func15, Tryz.ntmps15
    go_wp2_with fail
    clear hK
    rw [HW1.out]
    refine (HM.out w1 HR1.out).mono ?_
    rintro r w2 ⟨rfl, hb2⟩
    have HB2 := Lib.hid (HB1.out.trans (hb2.mono HB1.out.size))
    have HZ2 := Lib.hid ((hb2.block (K + 1) (blk_lt HZ1.out)).trans HZ1.out)
    have HQ2 := Lib.hid (HQ1.out.step hb2)
    have HE2 := Lib.hid (HE1.out.keep (Same.of_below (M := []) hb2))
    have HR2 := Lib.hid (HR1.out.keep (Same.of_below (M := []) hb2))
    clear hb2 k0 k1 k2 k3 hlK
    obtain ⟨k0, k1, k2, k3⟩ := HQ2.out.cells
    have hlK := blk_lt HQ2.out
    go_wp2_with fail
    refine (HFL.out w2 HR2.out HE2.out).mono ?_
    rintro r w3 ⟨B, d, rfl, hx3, hb3⟩
    have HB3 := Lib.hid (HB2.out.trans (hb3.mono HB2.out.size))
    have HZ3 := Lib.hid ((hb3.block (K + 1) (blk_lt HZ2.out)).trans HZ2.out)
    have HX3 := Lib.hid (hx3.more (Q := fun k => k ≤ K + 1) (fun k hk => .inl (by have := blk_lt HZ2.out; omega)))
    clear hb3 hx3 k0 k1 k2 k3 hlK
    go_wp2_with fail
    obtain ⟨w4, hw4⟩ : ∃ w', w3.alloc (.cells #[.int .i64 x.op, .int .i64 x.n, .string x.name, .slice B x.kids.length d] 24 (0, 0)) = w' := ⟨_, rfl⟩
    have hb4 : Below w3.heap.size w3 w4 := hw4 ▸ (Below.refl _ _).alloc (Nat.le_refl _) _
    have hq4 : ExB w4 w3.heap.size x B d := hw4 ▸ heap_alloc_new _ _
    obtain ⟨N, hN⟩ : ∃ N, w3.heap.size = N := ⟨_, rfl⟩
    rw [hw4, hN]
    rw [hN] at hq4
    have HQ4 := Lib.hid hq4
    have HB4 := Lib.hid (HB3.out.trans (hb4.mono HB3.out.size))
    have HZ4 := Lib.hid ((hb4.block (K + 1) (blk_lt HZ3.out)).trans HZ3.out)
    have HX4 := Lib.hid (HX3.out.below hb4)
    clear hb4 hq4 hw4 hN
    refine (HMX.out B d w4 HX4.out.row HX4.out.1).mono ?_
    rintro r w5 ⟨rfl, hb5⟩
    have HB5 := Lib.hid (HB4.out.trans (hb5.mono HB4.out.size))
    have HZ5 := Lib.hid ((hb5.block (K + 1) (blk_lt HZ4.out)).trans HZ4.out)
    have HX5 := Lib.hid (HX4.out.below hb5)
    have HQ5 := Lib.hid (HQ4.out.step hb5)
    obtain ⟨n0, n1, n2, n3⟩ := HQ5.out.cells
    have hlN := blk_lt HQ5.out
    obtain ⟨⟨z0, z1, z2, z3⟩, g0, g1, g2, g3⟩ := blk4 HZ5.out
    have hlZ := blk_lt HZ5.out
    clear hb5
    cases b
    · go_wp2_with fail
      refine bodyPost_ret (v := .tuple #[exV (.mk 0 0 ⟨#[]⟩ []) none 0, .int .i64 2]) (by simp [results, Tryz.results15, go_sem, Ex.op, Ex.n, Ex.name, Ex.kids, *]) rfl ?_
      rw [HX.out, if_pos trivial]
      exact ⟨none, 0, rfl, ExF.leaf rfl, below_set4' HB5.out (by have := HK.out; omega) _ _ _ _⟩
    · go_wp2_with fail
      refine bodyPost_ret (v := .tuple #[exV x B d, .int .i64 0]) (by simp [results, Tryz.results15, go_sem, *]) rfl ?_
      rw [HX.out, if_neg (by simp)]
      have hs := same_set4 w5 (K + 1) (.int .i64 x.op) (.int .i64 x.n) (.string x.name) (.slice B x.kids.length d)
      exact ⟨B, d, rfl, (HX5.out.keep hs (fun k hk => by simp at hk; omega)).more (fun k hk => .inl (by have := HK.out; omega)), below_set4' HB5.out (by have := HK.out; omega) _ _ _ _⟩
end Go.Proofs.YtgaiheojlmebaaaGreatDoor
/-! The law that any tree is filled as the document says, and comes to the same: the walk. -/
namespace Go.Proofs.YtgaiheojlmebaaaGreatDoor
open Go Go.RowKit Go.Lib Go.Sort

theorem fill_not {e x : Ex} {env : List Cel} (h : fillP e env = (x, 0)) (hf : ∀ c, c ∈ env → Fits c.n) (hk : ExOk e) : eEval x env = eEval e env ∧ ExOk x ∧ ∀ z, z ∈ namesP x → (cellP ⟨z.toArray⟩ env).2 = false := by
  unfold fillP at h
  by_cases h1 : eMay e = true
  · rw [if_neg (by rw [h1]; simp)] at h
    by_cases h2 : eMay (fillT env e) = true
    · rw [if_neg (by rw [h2]; simp)] at h
      obtain rfl : fillT env e = x := congrArg (·.1) h
      refine ⟨fill_eval hf h1 h2, fill_ok hf (SizeOf.sizeOf e + 1) e (by omega) hk, fun z hz => ?_⟩
      unfold namesP at hz
      rw [if_pos h2] at hz
      exact (fill_names env (SizeOf.sizeOf e + 1)).1 e (by omega) (sh_of_may h1) z (((sortC_strict _).2 z).1 hz)
    · rw [if_pos (by simpa using h2)] at h
      exact absurd (show (2 : Int) = 0 from congrArg (·.2) h) (by decide)
  · rw [if_pos (by simpa using h1)] at h
    exact absurd (show (1 : Int) = 0 from congrArg (·.2) h) (by decide)

set_option maxHeartbeats 8000000 in
set_option maxRecDepth 100000 in
theorem fills_any (env : List Cel) (EA : Option Addr) (ec : Nat) (e : Ex) (A : Option Addr) (c : Nat) (w : World) (hT : Tabs w) (hk : ExOk e) (ha : exK.Row [] w A e.kids) (hc : e.kids.length ≤ c) (he : celK.Row [] w EA env) (hle : env.length ≤ ec) (hf : ∀ x, x ∈ env → Fits x.n) :
    Calls Tryz.prog 4 #[exV e A c, .slice EA env.length ec] w fun r w' => r = .returned (.bool true) ∧ Below w.heap.size w w' := by
  obtain ⟨w0, hw0⟩ : ∃ w0, w.alloc (.cells #[.int .i64 e.op, .int .i64 e.n, .string e.name, .slice A e.kids.length c] 24) = w0 := ⟨_, rfl⟩
  have hal : Below w.heap.size w w0 := hw0 ▸ (Below.refl _ _).alloc (Nat.le_refl _) _
  have hx : ExB w0 w.heap.size e A c := hw0 ▸ heap_alloc_new _ _
  obtain ⟨K, hK⟩ : ∃ K, w.heap.size = K := ⟨_, rfl⟩
  have HL := Lib.hid (fun W h => lightN_any e A c W hk h hc)
  have HF1 := Lib.hid (fun W h1 h2 h3 => eFill_any e A c env EA ec W h1 hc hk h2 hle hf h3)
  have HF2 := Lib.hid (fun W h1 h2 h3 => xFill_any e A c env EA ec W h1 hc h2 hle hf h3)
  have HE1 := Lib.hid (fun W h1 h2 h3 => eval_any env EA ec e A c W hle hf h1 hc hk h2 h3)
  have HC := Lib.hid (fun nm W h => xcell_any env EA ec nm W h hle)
  obtain ⟨⟨x, f⟩, hp⟩ : ∃ p, fillP e env = p := ⟨_, rfl⟩
  have HFN : Hid (f = 0 → eEval x env = eEval e env ∧ ExOk x ∧ ∀ z, z ∈ namesP x → (cellP ⟨z.toArray⟩ env).2 = false) := Lib.hid (fun h => fill_not (by rw [hp, h]) hf hk)
  have HE2 := Lib.hid (fun B d W hkx h1 h2 h3 h4 => eval_any env EA ec x B d W hle hf h1 h2 hkx h3 h4)
  rw [hp] at HF1 HF2
  unfold FillPost at HF1 HF2
  unfold ReckPost at HE1 HE2
  have H0 := Lib.hid (Hold.mk (hT.below hal) hal)
  have R0 := Lib.hid (ha.keep (Same.of_below (M := []) hal))
  have E0 := Lib.hid (he.keep (Same.of_below (M := []) hal))
  have HW0 := Lib.hid hw0
  have Q0 : Hid (ExB w0 K e A c) := Lib.hid (by rw [← hK]; exact hx)
  have hmz : (env.length : Int) ≤ 9223372036854775807 := by have := he.1; omega
  have HX0 := Lib.hid hk
  clear hT hk ha hc he hle hf hp hw0 hal hx
  go_enter Tryz.func4, Tryz.ntmps4
  go_wp2_with fail
  rw [HW0.out]
  clear hK
  refine (awake_any w0 H0.out.tabs).mono ?_
  rintro r w1 ⟨rfl, hb1⟩
  have H1 := Lib.hid (H0.out.step hb1)
  have R1 := Lib.hid (R0.out.keep (Same.of_below (M := []) hb1))
  have E1 := Lib.hid (E0.out.keep (Same.of_below (M := []) hb1))
  have Q1 := Lib.hid (Q0.out.step hb1)
  obtain ⟨x0, x1, x2, x3⟩ := Q1.out.cells
  clear hb1
  go_wp2_with fail
  refine (HL.out w1 R1.out).mono ?_
  rintro r w2 ⟨b, rfl, hn, hb2⟩
  have HN := Lib.hid hn
  have H2 := Lib.hid (H1.out.step hb2)
  have R2 := Lib.hid (R1.out.keep (Same.of_below (M := []) hb2))
  have E2 := Lib.hid (E1.out.keep (Same.of_below (M := []) hb2))
  have Q2 := Lib.hid (Q1.out.step hb2)
  clear x0 x1 x2 x3 hn
  obtain ⟨x0, x1, x2, x3⟩ := Q2.out.cells
  have hlK := blk_lt Q2.out
  clear hb2
  cases b
  · go_wp2_with fail
    go_ret
    exact ⟨rfl, H2.out.below⟩
  · have HN2 := Lib.hid (HN.out rfl)
    clear HN
    by_cases hl : (1000 : Int) < env.length
    · go_wp2_with fail
      go_ret
      exact ⟨rfl, H2.out.below⟩
    · have hl' : (env.length : Int) ≤ 1000 := by omega
      clear hl
      go_wp2_with fail
      refine (HF1.out w2 R2.out E2.out H2.out.tabs).mono ?_
      rintro r w3 ⟨B, d, rfl, hx3, hb3⟩
      have H3 := Lib.hid (H2.out.step hb3)
      have R3 := Lib.hid (R2.out.keep (Same.of_below (M := []) hb3))
      have E3 := Lib.hid (E2.out.keep (Same.of_below (M := []) hb3))
      have Q3 := Lib.hid (Q2.out.step hb3)
      have X3 := Lib.hid hx3
      clear x0 x1 x2 x3 hlK hx3
      obtain ⟨x0, x1, x2, x3⟩ := Q3.out.cells
      have hlK := blk_lt Q3.out
      clear hb3
      go_wp2_with fail
      obtain ⟨w4, hw4⟩ : ∃ w', w3.alloc (.cells #[.int .i64 x.op, .int .i64 x.n, .string x.name, .slice B x.kids.length d] 24 (0, 0)) = w' := ⟨_, rfl⟩
      have hb4 : Below w3.heap.size w3 w4 := hw4 ▸ (Below.refl _ _).alloc (Nat.le_refl _) _
      have hq4 : ExB w4 w3.heap.size x B d := hw4 ▸ heap_alloc_new _ _
      obtain ⟨N, hN⟩ : ∃ N, w3.heap.size = N := ⟨_, rfl⟩
      rw [hw4, hN]
      rw [hN] at hq4
      have H4 := Lib.hid (H3.out.step hb4)
      have R4 := Lib.hid (R3.out.keep (Same.of_below (M := []) hb4))
      have E4 := Lib.hid (E3.out.keep (Same.of_below (M := []) hb4))
      have Q4 := Lib.hid (Q3.out.step hb4)
      have X4 := Lib.hid (X3.out.below hb4)
      have N4 := Lib.hid hq4
      clear hb4 hw4 hN hq4 x0 x1 x2 x3 hlK
      refine (HF2.out w4 R4.out E4.out HN2.out).mono ?_
      rintro r w5 ⟨B5, d5, rfl, hy5, hb5⟩
      have H5 := Lib.hid (H4.out.step hb5)
      have R5 := Lib.hid (R4.out.keep (Same.of_below (M := []) hb5))
      have E5 := Lib.hid (E4.out.keep (Same.of_below (M := []) hb5))
      have Q5 := Lib.hid (Q4.out.step hb5)
      have X5 := Lib.hid (X4.out.below hb5)
      have N5 := Lib.hid (N4.out.step hb5)
      have Y5 := Lib.hid hy5
      obtain ⟨n0, n1, n2, n3⟩ := N5.out.cells
      have hlN := blk_lt N5.out
      clear hb5 hy5
      go_wp2_with fail
      obtain ⟨w6, hw6⟩ : ∃ w', w5.alloc (.cells #[.int .i64 x.op, .int .i64 x.n, .string x.name, .slice B5 x.kids.length d5] 24 (0, 0)) = w' := ⟨_, rfl⟩
      have hb6 : Below w5.heap.size w5 w6 := hw6 ▸ (Below.refl _ _).alloc (Nat.le_refl _) _
      rw [hw6]
      have H6 := Lib.hid (H5.out.step hb6)
      have R6 := Lib.hid (R5.out.keep (Same.of_below (M := []) hb6))
      have E6 := Lib.hid (E5.out.keep (Same.of_below (M := []) hb6))
      have Q6 := Lib.hid (Q5.out.step hb6)
      have X6 := Lib.hid (X5.out.below hb6)
      have N6 := Lib.hid (N5.out.step hb6)
      have Y6 := Lib.hid (Y5.out.below hb6)
      clear hb6 hw6 n0 n1 n2 n3 hlN
      refine (same_eq x B d B5 d5 w6 X6.out.row X6.out.1 Y6.out.row Y6.out.1).mono ?_
      rintro r w7 ⟨rfl, hb7⟩
      have H7 := Lib.hid (H6.out.step hb7)
      have R7 := Lib.hid (R6.out.keep (Same.of_below (M := []) hb7))
      have E7 := Lib.hid (E6.out.keep (Same.of_below (M := []) hb7))
      have Q7 := Lib.hid (Q6.out.step hb7)
      have X7 := Lib.hid (X6.out.below hb7)
      have N7 := Lib.hid (N6.out.step hb7)
      clear hb7
      have hff : (f != f) = false := by simp
      by_cases hf0 : f = 0
      · obtain ⟨hev, hkx, hnm⟩ := HFN.out hf0
        subst hf0
        rw [hev] at HE2
        obtain ⟨⟨p1, p2⟩, hp⟩ : ∃ p, eEval e env = p := ⟨_, rfl⟩
        rw [hp] at HE1 HE2
        have HKX := Lib.hid hkx
        have HNM := Lib.hid hnm
        obtain ⟨x0, x1, x2, x3⟩ := Q7.out.cells
        have hlK := blk_lt Q7.out
        clear hev hkx hnm hp hff
        go_wp2_with fail
        refine (HE1.out w7 R7.out E7.out H7.out.tabs).mono ?_
        rintro r w8 ⟨rfl, hb8⟩
        have H8 := Lib.hid (H7.out.step hb8)
        have E8 := Lib.hid (E7.out.keep (Same.of_below (M := []) hb8))
        have X8 := Lib.hid (X7.out.below hb8)
        have N8 := Lib.hid (N7.out.step hb8)
        clear hb8 x0 x1 x2 x3 hlK
        obtain ⟨n0, n1, n2, n3⟩ := N8.out.cells
        have hlN := blk_lt N8.out
        go_wp2_with fail
        refine (HE2.out B d w8 HKX.out X8.out.row X8.out.1 E8.out H8.out.tabs).mono ?_
        rintro r w9 ⟨rfl, hb9⟩
        have H9 := Lib.hid (H8.out.step hb9)
        have E9 := Lib.hid (E8.out.keep (Same.of_below (M := []) hb9))
        have X9 := Lib.hid (X8.out.below hb9)
        have N9 := Lib.hid (N8.out.step hb9)
        clear hb9 n0 n1 n2 n3 hlN
        obtain ⟨n0, n1, n2, n3⟩ := N9.out.cells
        have hlN := blk_lt N9.out
        have hp1 : (p1 != p1) = false := by simp
        have hp2 : (p2 != p2) = false := by simp
        go_wp2_with fail
        refine (enames_any x B d w9 X9.out.row X9.out.1 HKX.out H9.out.tabs).mono ?_
        rintro r w10 ⟨V, v, rfl, hlv, hrv, hb10⟩
        have H10 := Lib.hid (H9.out.step hb10)
        have E10 := Lib.hid (E9.out.keep (Same.of_below (M := []) hb10))
        obtain ⟨l, hl⟩ : ∃ l, namesP x = l := ⟨_, rfl⟩
        rw [hl] at hlv hrv HNM ⊢
        have hlm := hrv.1
        have hlmz : (l.length : Int) ≤ 9223372036854775807 := by omega
        have hlvz : (l.length : Int) ≤ v := by omega
        have HRV := Lib.hid hrv
        clear hb10 n0 n1 n2 n3 hlN hrv hl hp1 hp2
        go_wp2_with fail
        go_loopg [17] (l.length + 1) (fun k s17 w' => ∃ j : Nat, s17 = .int .i64 j ∧ j ≤ l.length ∧ l.length - j < k ∧ w' = w10)
        case atStart => exact ⟨0, rfl, by omega, by omega, rfl⟩
        case round =>
          obtain ⟨j, rfl, hj, hjk, hw⟩ := hrel
          obtain ⟨gk, rfl⟩ : ∃ k, gk = k + 1 := ⟨gk - 1, by omega⟩
          have hj0 : (0 : Int) ≤ j := by omega
          rw [hw]
          clear hw
          by_cases hlt : j < l.length
          · have hltz : (j : Int) < l.length := by omega
            obtain ⟨ad, rfl⟩ := row_some HRV.out (by omega)
            obtain ⟨ad', e0, y0⟩ := s_at HRV.out j hlt
            injection e0 with e0
            subst e0
            have hly := World.block_lt_of_cell? w10 _ y0
            have hno := HNM.out _ (List.getElem_mem hlt)
            unfold encStr at y0
            obtain ⟨nm, hnm⟩ : ∃ b, (⟨l[j].toArray⟩ : ByteArray) = b := ⟨_, rfl⟩
            rw [hnm] at y0 hno
            have HCJ := Lib.hid (HC.out nm w10 E10.out)
            obtain ⟨⟨c1, c2⟩, hcc⟩ : ∃ p, cellP nm env = p := ⟨_, rfl⟩
            rw [hcc] at HCJ hno
            obtain rfl : c2 = false := hno
            clear hnm hcc
            go_wp2_with fail
            refine HCJ.out.mono ?_
            rintro r w11 ⟨rfl, hw11⟩
            rw [hw11]
            clear hw11
            go_wp2_with fail
            go_roundg gk
            case measure => omega
            case rel => exact ⟨j + 1, by go_num, by omega, by omega, rfl⟩
          · have hge : (l.length : Int) ≤ j := by omega
            go_wp2_with fail
            go_ret
            exact ⟨rfl, H10.out.below⟩
      · have hb0 : (f != 0) = true := bnet hf0
        clear hf0
        go_wp2_with fail
        go_ret
        exact ⟨rfl, H7.out.below⟩
end Go.Proofs.YtgaiheojlmebaaaGreatDoor
