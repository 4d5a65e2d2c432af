/- Walks: expr.fill. Walks: the reference's fill. -/
import Derived.Test.YtgaiheojlmebaaaGreatDoorI3
import Derived.Test.YtgaiheojlmebaaaGreatDoorE6
import Derived.Test.YtgaiheojlmebaaaGreatDoorO1
import Derived.Deep.RegionHeld3
import Derived.Test.YtgaiheojlmebaaaGreatDoorS0
/-! Walks: expr.fill. -/
namespace Go.Proofs.YtgaiheojlmebaaaGreatDoor
open Go Go.RowKit Go.Lib

theorem info_ex : (Tryz.prog.info? 24).map (fun i => (i.zero, i.size, i.bytes)) = some (some (.agg #[.int .i64 0, .int .i64 0, .string ⟨#[]⟩, .slice none 0 0]), 4, 56) := by kernel_rfl
/-- A tree with where its parts lie. -/
abbrev Q3 : Type := Ex × Option Addr × Nat
def enc4 (q : Q3) : List Value := [.int .i64 q.1.op, .int .i64 q.1.n, .string q.1.name, .slice q.2.1 q.1.kids.length q.2.2]
/-- A row of the call's own whose cells hold trees. -/
theorem row_of_own4 {w : World} {base g cap : Nat} {e : TypeId} {qs : List Q3} {P : Nat → Prop} (h : w.ownsRow base e 4 (.slice (some ⟨g, 0, none⟩) qs.length cap) qs.length (qs.flatMap enc4)) (hP : ∀ k, P k → k < base) (hx : ∀ q, q ∈ qs → ExF P w q.1 q.2.1 q.2.2) (o n : Int) (nm : ByteArray) :
    ExF P w (.mk o n nm (qs.map (·.1))) (some ⟨g, 0, none⟩) cap := by
  rcases h.2 with ⟨h', _⟩ | ⟨g', cap', cur, hv, hg, hh, h1, h2, h3, h4⟩
  · cases h'
  · injection hv with e1 _ e3
    injection e1 with e1
    injection e1 with e1
    subst e1 e3
    refine ⟨by simpa [Ex.kids] using h1, fun M hM => ⟨by show (qs.map (·.1)).length ≤ _; rw [List.length_map]; simp only [maxLen] at h2; omega, fun hn => ⟨⟨g, 0, none⟩, rfl, fun hc => ?_, (Array.getElem?_eq_some_iff.1 hh).1, fun i hi => ?_⟩⟩⟩
    · have := hP _ (hM _ hc)
      simp at this
      omega
    · have hi' : i < qs.length := by simpa [Ex.kids] using hi
      have hq := hx _ (List.getElem_mem hi')
      refine ⟨enc4 qs[i], ?_, fun j u hu => ?_⟩
      · have : (Ex.mk o n nm (qs.map (·.1))).kids[i] = qs[i].1 := by simp [Ex.kids]
        rw [this]
        exact exK_mk hq.1 (hq.2 M hM)
      · have hj : j < 4 := (List.getElem?_eq_some_iff.1 hu).1
        exact h.cells (g := g) rfl (i * 4 + j) u (by rw [getElem?_flatMap_const (f := enc4) (n := 4) (fun _ => rfl) qs i j hi' hj]; exact hu)

set_option maxHeartbeats 4000000 in
set_option maxRecDepth 100000 in
theorem efill_name (n : Int) (nm : ByteArray) (A : Option Addr) (c : Nat) (env : List Cel) (EA : Option Addr) (ec : Nat) (w : World) (he : celK.Row [] w EA env) (hle : env.length ≤ ec) (hf : ∀ c, c ∈ env → Fits c.n) :
    Calls Tryz.prog 29 #[.agg #[.int .i64 1, .int .i64 n, .string nm, .slice A 0 c], .slice EA env.length ec] w (TreePost (fillT env (.mk 1 n nm [])) w) := by
  have HC := Lib.hid (fun W h => cell_any env EA ec nm W h hle)
  have hft := cell_fits hf nm
  have HX : Hid (fillT env (.mk 1 n nm []) = if (cellP nm env).2 then numX (cellP nm env).1 else .mk 1 n nm []) := Lib.hid (by rw [fillT, if_pos rfl])
  obtain ⟨⟨v, ok⟩, hp⟩ : ∃ p, cellP nm env = p := ⟨_, rfl⟩
  rw [hp] at HC HX hft
  have HN := Lib.hid (fun W => enum_any v W hft)
  obtain ⟨w1, hw1⟩ : ∃ w', (w.alloc (.cells #[.int .i64 1, .int .i64 n, .string nm, .slice A 0 c] 24 (0, 0))).alloc (.cells #[.int .i64 0, .int .i64 0, .string ⟨#[]⟩, .slice none 0 0] 24 (0, 0)) = w' := ⟨_, rfl⟩
  have hb1 : Below w.heap.size w w1 := hw1 ▸ ((Below.refl _ _).alloc (Nat.le_refl _) _).alloc (by simp) _
  obtain ⟨K, hK⟩ : ∃ K, w.heap.size = K := ⟨_, rfl⟩
  have hq1 : w1.heap[K]? = some (.cells #[.int .i64 1, .int .i64 n, .string nm, .slice A 0 c] 24 (0, 0)) := by
    rw [← hw1, ← hK]
    exact (((Below.refl _ _).alloc (Nat.le_refl _) _).block w.heap.size (by simp)).trans (heap_alloc_new _ _)
  have hz1 : w1.heap[K + 1]? = some zCell := by
    have := heap_alloc_new (w.alloc (.cells #[.int .i64 1, .int .i64 n, .string nm, .slice A 0 c] 24 (0, 0))) zCell
    rw [← hw1, ← hK]
    simpa using this
  have HK := Lib.hid hK
  have HB1 := Lib.hid hb1
  have HQ1 := Lib.hid hq1
  have HZ1 := Lib.hid hz1
  have HW1 := Lib.hid hw1
  have HE1 := Lib.hid (he.keep (Same.of_below (M := []) hb1))
  obtain ⟨⟨k0, k1, k2, k3⟩, g0, g1, g2, g3⟩ := blk4 hq1
  have hlK := blk_lt hq1
  clear hw1 hb1 hq1 hz1 hp he hft
  cases ok
  · go_enter Tryz.func29, Tryz.ntmps29
    go_wp2_with fail
    clear hK
    rw [HW1.out]
    refine (HC.out w1 HE1.out).mono ?_
    rintro r w2 ⟨rfl, hb2⟩
    have HB2 := Lib.hid (HB1.out.trans (hb2.mono HB1.out.size))
    have HQ2 := Lib.hid ((hb2.block K (blk_lt HQ1.out)).trans HQ1.out)
    have HZ2 := Lib.hid ((hb2.block (K + 1) (blk_lt HZ1.out)).trans HZ1.out)
    clear hb2 k0 k1 k2 k3 g0 g1 g2 g3 hlK
    obtain ⟨⟨k0, k1, k2, k3⟩, _⟩ := blk4 HQ2.out
    obtain ⟨⟨z0, z1, z2, z3⟩, g0, g1, g2, g3⟩ := blk4 HZ2.out
    have hlK := blk_lt HQ2.out
    have hlZ := blk_lt HZ2.out
    go_wp2_with fail
    refine bodyPost_ret (v := exV (.mk 1 n nm []) A c) (by simp [results, Tryz.results29, go_sem, Ex.op, Ex.n, Ex.name, Ex.kids, *]) rfl ?_
    rw [HX.out, if_neg (by simp)]
    exact ⟨A, c, rfl, ⟨Nat.zero_le _, fun M _ => Kind.Row.nil _ _ _ _⟩, below_set4' HB2.out (by have := HK.out; omega) _ _ _ _⟩
  · obtain ⟨t, ht⟩ : ∃ t, numX v = t := ⟨_, rfl⟩
    have HT := Lib.hid ht
    rw [ht] at HN
    clear ht
    go_enter Tryz.func29, Tryz.ntmps29
    go_wp2_with fail
    clear hK
    rw [HW1.out]
    refine (HC.out w1 HE1.out).mono ?_
    rintro r w2 ⟨rfl, hb2⟩
    have HB2 := Lib.hid (HB1.out.trans (hb2.mono HB1.out.size))
    have HZ2 := Lib.hid ((hb2.block (K + 1) (blk_lt HZ1.out)).trans HZ1.out)
    clear hb2 k0 k1 k2 k3 g0 g1 g2 g3 hlK
    go_wp2_with fail
    refine (HN.out w2).mono ?_
    rintro r w3 ⟨B, d, rfl, hx3, hb3⟩
    have HB3 := Lib.hid (HB2.out.trans (hb3.mono HB2.out.size))
    have HZ3 := Lib.hid ((hb3.block (K + 1) (blk_lt HZ2.out)).trans HZ2.out)
    have HX3 := Lib.hid hx3
    obtain ⟨⟨z0, z1, z2, z3⟩, g0, g1, g2, g3⟩ := blk4 HZ3.out
    have hlZ := blk_lt HZ3.out
    clear hb3 hx3
    go_wp2_with fail
    refine bodyPost_ret (v := exV t B d) (by simp [results, Tryz.results29, go_sem, *]) rfl ?_
    rw [HX.out, if_pos trivial, HT.out]
    have hk2 := blk_lt HZ2.out
    have hk1 := HK.out
    have hs := same_set4 w3 (K + 1) (.int .i64 t.op) (.int .i64 t.n) (.string t.name) (.slice B t.kids.length d)
    exact ⟨B, d, rfl, ((HX3.out).keep hs (fun k hk => by simp at hk; omega)).more (fun k hk => .inl (by omega)), below_set4' HB3.out (by omega) _ _ _ _⟩

/-- What stands while a tree is filled part by part. -/
structure FillB (w1 w : World) (K7 : Nat) (o n : Int) (nm : ByteArray) (B : Option Addr) (b : Nat) (qs : List Q3) : Prop where
  blk : w.heap[K7]? = some (.cells #[.int .i64 o, .int .i64 n, .string nm, .slice B qs.length b] 24 (0, 0))
  own : w.ownsRow w1.heap.size 24 4 (.slice B qs.length b) qs.length (qs.flatMap enc4)
  kids : ∀ q, q ∈ qs → ExF (fun k => k < w1.heap.size ∨ (Value.slice B qs.length b).ownBlock = some k) w q.1 q.2.1 q.2.2
  same : Same [K7] w1 w
theorem FillB.step {w1 w w' : World} {K7 : Nat} {o n : Int} {nm : ByteArray} {B : Option Addr} {b : Nat} {qs : List Q3} (h : FillB w1 w K7 o n nm B b qs) (hb : Below w.heap.size w w') : FillB w1 w' K7 o n nm B b qs :=
  ⟨(hb.block K7 (blk_lt h.blk)).trans h.blk, own_below h.own hb, fun q hq => (h.kids q hq).below hb, h.same.below_ hb⟩

theorem FillB.push {w1 w2 w3 w6 : World} {K7 g cap : Nat} {o n : Int} {nm : ByteArray} {B B2 : Option Addr} {b d2 : Nat} {qs : List Q3} {t : Ex} {ob : Obj} (h : FillB w1 w2 K7 o n nm B b qs) (hb3 : Below w2.heap.size w2 w3) (hx : ExF (fun k => k < w2.heap.size) w3 t B2 d2)
    (hg : (w3.alloc ob).grownBy w6 (Value.slice B qs.length b).ownBlock) (hown : w6.ownsRow w1.heap.size 24 4 (.slice (some ⟨g, 0, none⟩) (qs.length + 1) cap) (qs.length + 1) (qs.flatMap enc4 ++ [.int .i64 t.op, .int .i64 t.n, .string t.name, .slice B2 t.kids.length d2]))
    (hat : (Value.slice B qs.length b).ownBlock = some g ∨ g = w3.heap.size + 1) (hK : K7 < w1.heap.size) :
    FillB w1 (w6.setCell ⟨K7, 3, none⟩ (.slice (some ⟨g, 0, none⟩) (qs.length + 1) cap)) K7 o n nm (some ⟨g, 0, none⟩) cap (qs ++ [(t, B2, d2)]) := by
  have hs2 := h.same.size
  have hs3 := hb3.size
  have hno : ∀ k, (Value.slice B qs.length b).ownBlock = some k → w1.heap.size ≤ k ∧ k < w2.heap.size := fun k hk => own_block h.own k hk
  have ha : Below w3.heap.size w3 (w3.alloc ob) := (Below.refl w3.heap.size w3).alloc (Nat.le_refl _) ob
  have hz : (w3.alloc ob).heap.size = w3.heap.size + 1 := by simp
  have hgw := own_block hown g rfl
  have hl : (qs ++ [((t, B2, d2) : Q3)]).length = qs.length + 1 := by simp
  have hblk : w6.heap[K7]? = some (.cells #[.int .i64 o, .int .i64 n, .string nm, .slice B qs.length b] 24 (0, 0)) :=
    (hg.block K7 (by rw [hz]; omega) (fun e => by have := hno _ e.symm; omega)).trans ((ha.block K7 (by omega)).trans ((hb3.block K7 (blk_lt h.blk)).trans h.blk))
  have hgs : Same (Value.slice B qs.length b).ownBlock.toList (w3.alloc ob) w6 := (Same.refl _ _).grown hg (fun k hk => .inl (by rw [hk]; simp))
  have hk : ∀ (x : Ex) (A : Option Addr) (c : Nat), ExF (fun k => k < w1.heap.size ∨ (Value.slice B qs.length b).ownBlock = some k) w3 x A c → ExF (fun k => k < w1.heap.size ∨ (Value.slice (some ⟨g, 0, none⟩) (qs.length + 1) cap).ownBlock = some k) (w6.setCell ⟨K7, 3, none⟩ (.slice (some ⟨g, 0, none⟩) (qs.length + 1) cap)) x A c := fun x A c hx => by
    have h1 := (hx.below ha).more (Q := fun k => k < w1.heap.size ∨ (Value.slice B qs.length b).ownBlock = some k ∨ (w3.alloc ob).heap.size ≤ k) (fun k hk => by
      rcases hk with h | h | h
      · exact .inl (.inl h)
      · exact .inl (.inr h)
      · exact .inr h)
    have h2 := h1.keep hgs (fun k hk => .inr (.inl (by cases hv : (Value.slice B qs.length b).ownBlock <;> rw [hv] at hk <;> simp_all)))
    have h3 := h2.keep ((Same.refl [K7] w6).setCell (p := ⟨K7, 3, none⟩) (.inl (by simp)) (.slice (some ⟨g, 0, none⟩) (qs.length + 1) cap)) (fun k hk => by simp at hk; exact .inl (by omega))
    refine h3.more (fun k hk => .inl ?_)
    rcases hk with h | h
    · exact .inl h
    · have e : g = k := by simpa [Value.ownBlock] using h
      subst e
      rcases hat with h | h
      · exact .inr (.inl h)
      · exact .inr (.inr (by rw [hz]; omega))
  refine ⟨?_, ?_, ?_, ?_⟩
  · rw [hl]; exact blk_set hblk 3 _
  · rw [hl, List.flatMap_append]
    exact own_set hown (p := ⟨K7, 3, none⟩) (by simp [Value.ownBlock]; omega) _
  · intro q hq
    rw [hl]
    rcases List.mem_append.1 hq with hq | hq
    · exact hk _ _ _ ((h.kids q hq).below hb3)
    · obtain rfl : q = (t, B2, d2) := by simpa using hq
      exact hk _ _ _ (hx.more (fun k hk => .inl (by
        rcases hk with h | h
        · omega
        · exact (hno k h).2)))
  · exact (((h.same.below_ hb3).alloc ob).grown hg (fun k hk => .inr (hno k hk).1)).setCell (.inl (by simp)) _
theorem FillB.done {w1 w : World} {K7 : Nat} {o n : Int} {nm : ByteArray} {B : Option Addr} {b : Nat} {qs : List Q3} (h : FillB w1 w K7 o n nm B b qs) : ExF (fun k => k < w1.heap.size) w (.mk o n nm (qs.map (·.1))) B b := by
  rcases h.own.2 with ⟨_, h0⟩ | ⟨g, cap, cur, hv, _⟩
  · obtain rfl : qs = [] := List.eq_nil_of_length_eq_zero h0
    exact ⟨Nat.zero_le _, fun M _ => Kind.Row.nil _ _ _ _⟩
  · injection hv with e1 _ e3
    subst e1 e3
    exact row_of_own4 h.own (fun k hk => hk) (fun q hq => (h.kids q hq).more (fun k hk => .inl (.inl hk))) o n nm

set_option maxHeartbeats 8000000 in
set_option maxRecDepth 100000 in
theorem efill_node (o n : Int) (nm : ByteArray) (ks : List Ex) (A : Option Addr) (c : Nat) (env : List Cel) (EA : Option Addr) (ec : Nat) (w : World) (ho1 : o ≠ 1) (hr : exK.Row [] w A ks) (hlc : ks.length ≤ c) (he : celK.Row [] w EA env) (hk2 : ks.length ≤ 2)
    (ih : ∀ (j : Nat) (hj : j < ks.length) (A' : Option Addr) (c' : Nat) (W : World), exK.Row [] W A' ks[j].kids → ks[j].kids.length ≤ c' → celK.Row [] W EA env →
      Calls Tryz.prog 29 #[exV ks[j] A' c', .slice EA env.length ec] W (TreePost (fillT env ks[j]) W)) :
    Calls Tryz.prog 29 #[.agg #[.int .i64 o, .int .i64 n, .string nm, .slice A ks.length c], .slice EA env.length ec] w (TreePost (.mk o n nm (fillTs env ks)) w) := by
  have HIH := Lib.hid ih
  have hmz : (ks.length : Int) ≤ 2 := by omega
  have hlcz : (ks.length : Int) ≤ c := by omega
  have o1 : (o == 1) = false := beqf ho1
  obtain ⟨ANS, hANS⟩ : ∃ x, fillTs env ks = x := ⟨_, rfl⟩
  rw [hANS]
  have HANS := Lib.hid hANS
  obtain ⟨w1, hw1⟩ : ∃ w', ((w.alloc (.cells #[.int .i64 o, .int .i64 n, .string nm, .slice A ks.length c] 24 (0, 0))).alloc (.cells #[.int .i64 0, .int .i64 0, .string ⟨#[]⟩, .slice none 0 0] 24 (0, 0))).alloc (.cells #[.int .i64 o, .int .i64 n, .string nm, .slice none 0 0] 24 (0, 0)) = w' := ⟨_, rfl⟩
  have hb1 : Below w.heap.size w w1 := hw1 ▸ (((Below.refl _ _).alloc (Nat.le_refl _) _).alloc (by simp) _).alloc (by simp; omega) _
  obtain ⟨K, hK⟩ : ∃ K, w.heap.size = K := ⟨_, rfl⟩
  have hs1 : w1.heap.size = K + 3 := by rw [← hw1, ← hK]; simp
  have hz1 : w1.heap[K + 1]? = some zCell := by
    have h1 := heap_alloc_new (w.alloc (.cells #[.int .i64 o, .int .i64 n, .string nm, .slice A ks.length c] 24 (0, 0))) zCell
    rw [← hw1, ← hK]
    refine (((Below.refl _ _).alloc (Nat.le_refl _) _).block (w.heap.size + 1) (by simp)).trans ?_
    simpa using h1
  have hq1 : w1.heap[K]? = some (.cells #[.int .i64 o, .int .i64 n, .string nm, .slice A ks.length c] 24 (0, 0)) := by
    rw [← hw1, ← hK]
    exact ((((Below.refl (w.alloc _).heap.size (w.alloc (.cells #[.int .i64 o, .int .i64 n, .string nm, .slice A ks.length c] 24 (0, 0)))).alloc (Nat.le_refl _) _).alloc (by simp) _).block w.heap.size (by simp)).trans (heap_alloc_new _ _)
  have hf1 : w1.heap[K + 1 + 1]? = some (.cells #[.int .i64 o, .int .i64 n, .string nm, .slice none 0 0] 24 (0, 0)) := by
    have h1 := heap_alloc_new ((w.alloc (.cells #[.int .i64 o, .int .i64 n, .string nm, .slice A ks.length c] 24 (0, 0))).alloc zCell) (.cells #[.int .i64 o, .int .i64 n, .string nm, .slice none 0 0] 24 (0, 0))
    rw [← hw1, ← hK]
    simpa using h1
  have HK := Lib.hid hK
  have HS1 := Lib.hid hs1
  have HB1 := Lib.hid hb1
  have HZ1 := Lib.hid hz1
  have HQ1 := Lib.hid hq1
  have HW1 := Lib.hid hw1
  have HR1 : Hid (exK.Row [K + 1 + 1] w1 A ks) := Lib.hid ((hr.less (fun k hk => .inr (by simp at hk; omega))).keep (Same.of_below hb1))
  have HE1 : Hid (celK.Row [K + 1 + 1] w1 EA env) := Lib.hid ((he.less (fun k hk => .inr (by simp at hk; omega))).keep (Same.of_below hb1))
  have HF1 : Hid (FillB w1 w1 (K + 1 + 1) o n nm none 0 []) := Lib.hid ⟨hf1, ⟨rfl, .inl ⟨rfl, rfl⟩⟩, fun q hq => by simp at hq, Same.refl _ _⟩
  clear ih hr he hANS hb1 hz1 hq1 hf1 hw1 hs1 ho1
  go_enter Tryz.func29, Tryz.ntmps29
  go_wp2_with fail
  clear hK
  rw [HW1.out]
  go_loopg [34] (ks.length + 1) (fun k s34 w' => ∃ (j : Nat) (qs : List Q3) (B : Option Addr) (b : Nat), s34 = .int .i64 j ∧ j ≤ ks.length ∧ ks.length - j < k ∧ Hid (qs.length = j) ∧ FillB w1 w' (K + 1 + 1) o n nm B b qs ∧ qs.map (·.1) ++ fillTs env (ks.drop j) = ANS)
  case atStart => exact ⟨0, [], none, 0, rfl, by omega, by omega, Lib.hid rfl, HF1.out, HANS.out⟩
  case round =>
    obtain ⟨j, qs, B, b, rfl, hj, hjk, HQL, hfb, hans⟩ := hrel
    obtain ⟨gk, rfl⟩ : ∃ k, gk = k + 1 := ⟨gk - 1, by omega⟩
    have HFB := Lib.hid hfb
    have hj0 : (0 : Int) ≤ j := by omega
    have HRr := Lib.hid (HR1.out.keep hfb.same)
    have HEr := Lib.hid (HE1.out.keep hfb.same)
    clear hfb
    by_cases hlt : j < ks.length
    · have hltz : (j : Int) < ks.length := by omega
      obtain ⟨ad, rfl⟩ := row_some HRr.out (by omega)
      obtain ⟨A', c', x0, x1, x2, x3, hlc', hrow', _⟩ := ex_some HRr.out j hlt
      have hadlt := World.block_lt_of_cell? wr _ x0
      rw [drop_cons ks j hlt, fillTs_cons] at hans
      have HN := Lib.hid hans
      have HRK := Lib.hid hrow'
      clear hans hrow'
      go_wp2_with fail
      obtain ⟨w2, hw2⟩ : ∃ w', wr.alloc (.cells #[.int .i64 ks[j].op, .int .i64 ks[j].n, .string ks[j].name, .slice A' ks[j].kids.length c'] 24 (0, 0)) = w' := ⟨_, rfl⟩
      have hb2 : Below wr.heap.size wr w2 := hw2 ▸ (Below.refl _ _).alloc (Nat.le_refl _) _
      have hq2 : ExB w2 wr.heap.size ks[j] A' c' := hw2 ▸ heap_alloc_new _ _
      obtain ⟨N2, hN2⟩ : ∃ N, wr.heap.size = N := ⟨_, rfl⟩
      have HF2 := Lib.hid (HFB.out.step hb2)
      obtain ⟨t, ht⟩ : ∃ t, fillT env ks[j] = t := ⟨_, rfl⟩
      have HT := Lib.hid ht
      have HKID : Hid (∀ W, Below w2.heap.size w2 W → Calls Tryz.prog 29 #[exV ks[j] A' c', .slice EA env.length ec] W fun r w3 => ∃ B2 d2, r = .returned (exV t B2 d2) ∧ ExF (fun k => k < w2.heap.size) w3 t B2 d2 ∧ Below w2.heap.size w2 w3) := Lib.hid (fun W hW => by
        have hb := hb2.trans (hW.mono hb2.size)
        have h := HIH.out j hlt A' c' W ((HRK.out.less (fun k hk => by simp at hk)).keep (Same.of_below (M := []) hb)) hlc' ((HEr.out.less (fun k hk => by simp at hk)).keep (Same.of_below (M := []) hb))
        rw [ht] at h
        refine h.mono ?_
        rintro r w3 ⟨B2, d2, rfl, h1, h2⟩
        exact ⟨B2, d2, rfl, h1.more (fun k hk => .inl (by have := hW.size; omega)), hW.trans (h2.mono hW.size)⟩)
      obtain ⟨q0, q1, q2, q3⟩ := hq2.cells
      have hl2 := blk_lt hq2
      have hK2 := blk_lt HF2.out.blk
      have f3 := (blk_cell HF2.out.blk 3).trans rfl
      have HQ2 := Lib.hid hq2
      rw [hw2]
      rw [hN2] at q0 q1 q2 q3 hl2 ⊢
      have hsq : qs.length ≤ 2 := by rw [HQL.out]; omega
      clear x0 x1 x2 x3 hadlt hw2 hq2 ht
      obtain ⟨i0, hi0, hz0, hz1, hz2⟩ := info_parts info_ex
      have hsz1 := HF2.out.same.size
      have hbK : K + 1 + 1 < w1.heap.size := by rw [HS1.out]; omega
      have KP : ∀ (w3 w6 : World) (ob : Obj), Below w2.heap.size w2 w3 → (w3.alloc ob).grownBy w6 (Value.slice B qs.length b).ownBlock → w6.heap[K + 1 + 1]? = w2.heap[K + 1 + 1]? ∧ w6.heap[N2]? = w2.heap[N2]? := fun w3 w6 ob hb hg => by
        have h3 := hb.size
        have ha := (Below.refl w3.heap.size w3).alloc (Nat.le_refl _) ob
        have hno : ∀ k, (Value.slice B qs.length b).ownBlock = some k → w1.heap.size ≤ k ∧ k < N2 := fun k hk => by rw [← hN2]; exact own_block HFB.out.own k hk
        exact ⟨((hg.block (K + 1 + 1) (by simp; omega) (fun e => by have := hno _ e.symm; omega)).trans (ha.block _ (by omega))).trans (hb.block _ hK2),
          ((hg.block N2 (by simp; omega) (fun e => by have := hno _ e.symm; omega)).trans (ha.block _ (by omega))).trans (hb.block _ hl2)⟩
      have HKP := Lib.hid KP
      clear KP
      go_region_law (first
        | (refine step_append_lies _ (by rfl) _ _ _ (by rfl) w1.heap.size 24 i0 _ 4 56 Tryz.underlying22 hi0 hz0 hz1 hz2 rfl (by omega) (.slice B qs.length b) qs.length (qs.flatMap enc4) (by rfl) ((HF2.out.step hb3).own.alloc _) ⟨w3.heap.size, 0, none⟩ 1 1 [.int .i64 t.op, .int .i64 t.n, .string t.name, .slice B2 t.kids.length d2] (by rfl) (by rfl) (World.news_of_block (cs := #[.int .i64 t.op, .int .i64 t.n, .string t.name, .slice B2 t.kids.length d2]) (t := 24) (fr := (0, 0)) (heap_alloc_new w3 _)) (by simp [Value.oneCell']) (by omega) (by unfold maxLen; omega) (by omega) (by simp; omega) (w3.heap.size + 1) (by simp) ?_; intro g cap w6 hown6 hgrow hat hlt6; have e6 := (HKP.out _ _ _ hb3 hgrow).1; have g6 := (World.frozen?_of_block e6).trans (blk_frozen HF2.out.blk 3); have y6 := (World.cell?_of_block (a := ⟨K + 1 + 1, 3, none⟩) e6).trans f3; have hl6 := blk_lt (e6.trans HF2.out.blk))
        | (go_simp; go_at_call 29; refine (HKID.out _ ?_).mono ?_; (first | exact (Below.refl _ _) | exact (Below.refl _ _).drew); rintro r w3 ⟨B2, d2, rfl, hx3, hb3⟩; have hsz3 := hb3.size; have y3 := (hb3.cell (p := ⟨K + 1 + 1, 3, none⟩) hK2).trans f3; have hK3 := Nat.lt_of_lt_of_le hK2 hsz3; (try go_wp2_with fail)))
      all_goals
        have HP := Lib.hid (HF2.out.push hb3 hx3 hgrow hown6 hat hbK)
        clear q0 q1 q2 q3 hl2 f3 y3 hK3 hx3 hown6 hgrow hat hlt6 e6 g6 y6 hl6 hb3 hsz3
        go_wp2_with fail
        go_roundg gk
        case measure => omega
        case rel => exact ⟨j + 1, qs ++ [(t, B2, d2)], some ⟨g, 0, none⟩, cap, by go_num, by omega, by omega, Lib.hid (by rw [List.length_append, HQL.out]; rfl), HP.out, by rw [List.map_append, List.append_assoc, ← HN.out, HT.out]; rfl⟩
    · have hge : (ks.length : Int) ≤ j := by omega
      rw [List.drop_of_length_le (by omega), fillTs_nil, List.append_nil] at hans
      have hz1 : wr.heap[K + 1]? = some zCell := HFB.out.same.heap (by simp) HZ1.out
      obtain ⟨⟨z0, z1, z2, z3⟩, g0, g1, g2, g3⟩ := blk4 hz1
      obtain ⟨⟨k0, k1, k2, k3⟩, _⟩ := blk4 HFB.out.blk
      have hlz := blk_lt hz1
      have hlk := blk_lt HFB.out.blk
      have HA := Lib.hid hans
      clear hans hz1
      go_wp2_with fail
      refine bodyPost_ret (v := exV (.mk o n nm (qs.map (·.1))) B b) (by simp [results, Tryz.results29, go_sem, Ex.op, Ex.n, Ex.name, Ex.kids, *]) rfl ?_
      rw [← HA.out]
      have hs := same_set4 wr (K + 1) (.int .i64 o) (.int .i64 n) (.string nm) (.slice B qs.length b)
      have hk := HK.out
      have hs1 := HS1.out
      have hb := (((Same.of_below (M := [K + 1 + 1]) HB1.out).then_ HFB.out.same)).below_of (fun k hk => by simp at hk; omega)
      exact ⟨B, b, rfl, (HFB.out.done.keep hs (fun k hk => by simp at hk; omega)).more (fun k hk => .inl (by omega)), below_set4' hb (by omega) _ _ _ _⟩

theorem efill_any (env : List Cel) (EA : Option Addr) (ec : Nat) (hle : env.length ≤ ec) (hf : ∀ c, c ∈ env → Fits c.n) (N : Nat) : ∀ (e : Ex) (A : Option Addr) (c : Nat) (w : World), SizeOf.sizeOf e < N → ExSh e → exK.Row [] w A e.kids → e.kids.length ≤ c → celK.Row [] w EA env →
    Calls Tryz.prog 29 #[exV e A c, .slice EA env.length ec] w (TreePost (fillT env e) w) := by
  induction N with
  | zero => intro e A c w h; omega
  | succ N ih =>
    intro e A c w hN hs hr hlc he
    cases hs with
    | @leaf op n nm ks h h2 =>
      subst h2
      by_cases h1 : op = 1
      · subst h1
        exact efill_name n nm A c env EA ec w he hle hf
      · rw [fillT, if_neg h1]
        exact efill_node op n nm [] A c env EA ec w h1 hr hlc he (by simp) (fun j hj => by simp at hj)
    | @node op n nm ks h1 h2 h3 h4 =>
      rw [fillT, if_neg (by omega)]
      refine efill_node op n nm ks A c env EA ec w (by omega) hr hlc he (by rw [h3]; unfold eParts; split <;> omega) (fun j hj A' c' W hr' hl' he' => ih _ A' c' W ?_ (h4 _ (List.getElem_mem hj)) hr' hl' he')
      have h7 : SizeOf.sizeOf ks[j] < SizeOf.sizeOf ks := List.sizeOf_lt_of_mem (List.getElem_mem hj)
      simp at hN
      omega
end Go.Proofs.YtgaiheojlmebaaaGreatDoor
/-! Walks: the reference's fill. -/
namespace Go.Proofs.YtgaiheojlmebaaaGreatDoor
open Go Go.RowKit Go.Lib

set_option maxHeartbeats 4000000 in
set_option maxRecDepth 100000 in
theorem xfill_name (n : Int) (nm : ByteArray) (A : Option Addr) (c : Nat) (env : List Cel) (EA : Option Addr) (ec : Nat) (w : World) (he : celK.Row [] w EA env) (hle : env.length ≤ ec) (hf : ∀ c, c ∈ env → Fits c.n) :
    Calls Tryz.prog 30 #[.agg #[.int .i64 1, .int .i64 n, .string nm, .slice A 0 c], .slice EA env.length ec] w (TreePost (fillT env (.mk 1 n nm [])) w) := by
  have HC := Lib.hid (fun W h => xcell_any env EA ec nm W h hle)
  have hft := cell_fits hf nm
  have HX : Hid (fillT env (.mk 1 n nm []) = if (cellP nm env).2 then numX (cellP nm env).1 else .mk 1 n nm []) := Lib.hid (by rw [fillT, if_pos rfl])
  obtain ⟨⟨v, ok⟩, hp⟩ : ∃ p, cellP nm env = p := ⟨_, rfl⟩
  rw [hp] at HC HX hft
  have HN := Lib.hid (fun W => xnum_any v W hft)
  obtain ⟨w1, hw1⟩ : ∃ w', (w.alloc (.cells #[.int .i64 1, .int .i64 n, .string nm, .slice A 0 c] 24 (0, 0))).alloc (.cells #[.int .i64 0, .int .i64 0, .string ⟨#[]⟩, .slice none 0 0] 24 (0, 0)) = w' := ⟨_, rfl⟩
  have hb1 : Below w.heap.size w w1 := hw1 ▸ ((Below.refl _ _).alloc (Nat.le_refl _) _).alloc (by simp) _
  obtain ⟨K, hK⟩ : ∃ K, w.heap.size = K := ⟨_, rfl⟩
  have hq1 : w1.heap[K]? = some (.cells #[.int .i64 1, .int .i64 n, .string nm, .slice A 0 c] 24 (0, 0)) := by
    rw [← hw1, ← hK]
    exact (((Below.refl _ _).alloc (Nat.le_refl _) _).block w.heap.size (by simp)).trans (heap_alloc_new _ _)
  have hz1 : w1.heap[K + 1]? = some zCell := by
    have := heap_alloc_new (w.alloc (.cells #[.int .i64 1, .int .i64 n, .string nm, .slice A 0 c] 24 (0, 0))) zCell
    rw [← hw1, ← hK]
    simpa using this
  have HK := Lib.hid hK
  have HB1 := Lib.hid hb1
  have HQ1 := Lib.hid hq1
  have HZ1 := Lib.hid hz1
  have HW1 := Lib.hid hw1
  have HE1 := Lib.hid (he.keep (Same.of_below (M := []) hb1))
  obtain ⟨⟨k0, k1, k2, k3⟩, g0, g1, g2, g3⟩ := blk4 hq1
  have hlK := blk_lt hq1
  clear hw1 hb1 hq1 hz1 hp he hft
  cases ok
  · go_enter Tryz.func30, Tryz.ntmps30
    go_wp2_with fail
    clear hK
    rw [HW1.out]
    refine (HC.out w1 HE1.out).mono ?_
    rintro r w2 ⟨rfl, hw2⟩
    rw [hw2]
    clear hw2
    go_wp2_with fail
    obtain ⟨w3, hw3⟩ : ∃ w', w1.alloc (.cells #[.int .i64 1, .int .i64 n, .string nm, .slice none 0 0] 24 (0, 0)) = w' := ⟨_, rfl⟩
    have hb3 : Below w1.heap.size w1 w3 := hw3 ▸ (Below.refl _ _).alloc (Nat.le_refl _) _
    have hq3 : w3.heap[w1.heap.size]? = some (.cells #[.int .i64 1, .int .i64 n, .string nm, .slice none 0 0] 24 (0, 0)) := hw3 ▸ heap_alloc_new _ _
    obtain ⟨N, hN⟩ : ∃ N, w1.heap.size = N := ⟨_, rfl⟩
    rw [hw3, hN]
    rw [hN] at hq3
    have HB3 := Lib.hid (HB1.out.trans (hb3.mono HB1.out.size))
    have HQ3 := Lib.hid ((hb3.block K (blk_lt HQ1.out)).trans HQ1.out)
    have HZ3 := Lib.hid ((hb3.block (K + 1) (blk_lt HZ1.out)).trans HZ1.out)
    clear hb3 hw3 hN k0 k1 k2 k3 g0 g1 g2 g3 hlK
    obtain ⟨⟨n0, n1, n2, n3⟩, _⟩ := blk4 hq3
    obtain ⟨⟨k0, k1, k2, k3⟩, _⟩ := blk4 HQ3.out
    obtain ⟨⟨z0, z1, z2, z3⟩, g0, g1, g2, g3⟩ := blk4 HZ3.out
    have hlK := blk_lt HQ3.out
    have hlZ := blk_lt HZ3.out
    have hlN := blk_lt hq3
    clear hq3
    go_loopg [8] 1 (fun k s8 w' => s8 = .int .i64 0 ∧ 0 < k ∧ w' = w3)
    case atStart => exact ⟨rfl, by decide, rfl⟩
    case round =>
      obtain ⟨rfl, hk0, hw⟩ := hrel
      rw [hw]
      clear hw hk0
      go_wp2_with fail
      refine bodyPost_ret (v := exV (.mk 1 n nm []) none 0) (by simp [results, Tryz.results30, go_sem, Ex.op, Ex.n, Ex.name, Ex.kids, *]) rfl ?_
      rw [HX.out, if_neg (by simp)]
      exact ⟨none, 0, rfl, ExF.leaf rfl, below_set4' HB3.out (by have := HK.out; omega) _ _ _ _⟩
  · obtain ⟨t, ht⟩ : ∃ t, numX v = t := ⟨_, rfl⟩
    have HT := Lib.hid ht
    rw [ht] at HN
    clear ht
    go_enter Tryz.func30, Tryz.ntmps30
    go_wp2_with fail
    clear hK
    rw [HW1.out]
    refine (HC.out w1 HE1.out).mono ?_
    rintro r w2 ⟨rfl, hw2⟩
    rw [hw2]
    clear hw2
    have HB2 := HB1
    have HZ2 := HZ1
    clear k0 k1 k2 k3 g0 g1 g2 g3 hlK
    go_wp2_with fail
    refine (HN.out w1).mono ?_
    rintro r w3 ⟨B, d, rfl, hx3, hb3⟩
    have HB3 := Lib.hid (HB2.out.trans (hb3.mono HB2.out.size))
    have HZ3 := Lib.hid ((hb3.block (K + 1) (blk_lt HZ2.out)).trans HZ2.out)
    have HX3 := Lib.hid hx3
    obtain ⟨⟨z0, z1, z2, z3⟩, g0, g1, g2, g3⟩ := blk4 HZ3.out
    have hlZ := blk_lt HZ3.out
    clear hb3 hx3
    go_wp2_with fail
    refine bodyPost_ret (v := exV t B d) (by simp [results, Tryz.results30, go_sem, *]) rfl ?_
    rw [HX.out, if_pos trivial, HT.out]
    have hk2 := blk_lt HZ2.out
    have hk1 := HK.out
    have hs := same_set4 w3 (K + 1) (.int .i64 t.op) (.int .i64 t.n) (.string t.name) (.slice B t.kids.length d)
    exact ⟨B, d, rfl, ((HX3.out).keep hs (fun k hk => by simp at hk; omega)).more (fun k hk => .inl (by omega)), below_set4' HB3.out (by omega) _ _ _ _⟩

set_option maxHeartbeats 8000000 in
set_option maxRecDepth 100000 in
theorem xfill_node (o n : Int) (nm : ByteArray) (ks : List Ex) (A : Option Addr) (c : Nat) (env : List Cel) (EA : Option Addr) (ec : Nat) (w : World) (ho1 : o ≠ 1) (hr : exK.Row [] w A ks) (hlc : ks.length ≤ c) (he : celK.Row [] w EA env) (hk2 : ks.length ≤ 2)
    (ih : ∀ (j : Nat) (hj : j < ks.length) (A' : Option Addr) (c' : Nat) (W : World), exK.Row [] W A' ks[j].kids → ks[j].kids.length ≤ c' → celK.Row [] W EA env →
      Calls Tryz.prog 30 #[exV ks[j] A' c', .slice EA env.length ec] W (TreePost (fillT env ks[j]) W)) :
    Calls Tryz.prog 30 #[.agg #[.int .i64 o, .int .i64 n, .string nm, .slice A ks.length c], .slice EA env.length ec] w (TreePost (.mk o n nm (fillTs env ks)) w) := by
  have HIH := Lib.hid ih
  have hmz : (ks.length : Int) ≤ 2 := by omega
  have hlcz : (ks.length : Int) ≤ c := by omega
  have o1 : (o == 1) = false := beqf ho1
  obtain ⟨ANS, hANS⟩ : ∃ x, fillTs env ks = x := ⟨_, rfl⟩
  rw [hANS]
  have HANS := Lib.hid hANS
  obtain ⟨w1, hw1⟩ : ∃ w', ((w.alloc (.cells #[.int .i64 o, .int .i64 n, .string nm, .slice A ks.length c] 24 (0, 0))).alloc (.cells #[.int .i64 0, .int .i64 0, .string ⟨#[]⟩, .slice none 0 0] 24 (0, 0))).alloc (.cells #[.int .i64 o, .int .i64 n, .string nm, .slice none 0 0] 24 (0, 0)) = w' := ⟨_, rfl⟩
  have hb1 : Below w.heap.size w w1 := hw1 ▸ (((Below.refl _ _).alloc (Nat.le_refl _) _).alloc (by simp) _).alloc (by simp; omega) _
  obtain ⟨K, hK⟩ : ∃ K, w.heap.size = K := ⟨_, rfl⟩
  have hs1 : w1.heap.size = K + 3 := by rw [← hw1, ← hK]; simp
  have hz1 : w1.heap[K + 1]? = some zCell := by
    have h1 := heap_alloc_new (w.alloc (.cells #[.int .i64 o, .int .i64 n, .string nm, .slice A ks.length c] 24 (0, 0))) zCell
    rw [← hw1, ← hK]
    refine (((Below.refl _ _).alloc (Nat.le_refl _) _).block (w.heap.size + 1) (by simp)).trans ?_
    simpa using h1
  have hq1 : w1.heap[K]? = some (.cells #[.int .i64 o, .int .i64 n, .string nm, .slice A ks.length c] 24 (0, 0)) := by
    rw [← hw1, ← hK]
    exact ((((Below.refl (w.alloc _).heap.size (w.alloc (.cells #[.int .i64 o, .int .i64 n, .string nm, .slice A ks.length c] 24 (0, 0)))).alloc (Nat.le_refl _) _).alloc (by simp) _).block w.heap.size (by simp)).trans (heap_alloc_new _ _)
  have hf1 : w1.heap[K + 1 + 1]? = some (.cells #[.int .i64 o, .int .i64 n, .string nm, .slice none 0 0] 24 (0, 0)) := by
    have h1 := heap_alloc_new ((w.alloc (.cells #[.int .i64 o, .int .i64 n, .string nm, .slice A ks.length c] 24 (0, 0))).alloc zCell) (.cells #[.int .i64 o, .int .i64 n, .string nm, .slice none 0 0] 24 (0, 0))
    rw [← hw1, ← hK]
    simpa using h1
  have HK := Lib.hid hK
  have HS1 := Lib.hid hs1
  have HB1 := Lib.hid hb1
  have HZ1 := Lib.hid hz1
  have HQ1 := Lib.hid hq1
  have HW1 := Lib.hid hw1
  have HR1 : Hid (exK.Row [K + 1 + 1] w1 A ks) := Lib.hid ((hr.less (fun k hk => .inr (by simp at hk; omega))).keep (Same.of_below hb1))
  have HE1 : Hid (celK.Row [K + 1 + 1] w1 EA env) := Lib.hid ((he.less (fun k hk => .inr (by simp at hk; omega))).keep (Same.of_below hb1))
  have HF1 : Hid (FillB w1 w1 (K + 1 + 1) o n nm none 0 []) := Lib.hid ⟨hf1, ⟨rfl, .inl ⟨rfl, rfl⟩⟩, fun q hq => by simp at hq, Same.refl _ _⟩
  clear ih hr he hANS hb1 hz1 hq1 hf1 hw1 hs1 ho1
  go_enter Tryz.func30, Tryz.ntmps30
  go_wp2_with fail
  clear hK
  rw [HW1.out]
  go_loopg [8] (ks.length + 1) (fun k s34 w' => ∃ (j : Nat) (qs : List Q3) (B : Option Addr) (b : Nat), s34 = .int .i64 j ∧ j ≤ ks.length ∧ ks.length - j < k ∧ Hid (qs.length = j) ∧ FillB w1 w' (K + 1 + 1) o n nm B b qs ∧ qs.map (·.1) ++ fillTs env (ks.drop j) = ANS)
  case atStart => exact ⟨0, [], none, 0, rfl, by omega, by omega, Lib.hid rfl, HF1.out, HANS.out⟩
  case round =>
    obtain ⟨j, qs, B, b, rfl, hj, hjk, HQL, hfb, hans⟩ := hrel
    obtain ⟨gk, rfl⟩ : ∃ k, gk = k + 1 := ⟨gk - 1, by omega⟩
    have HFB := Lib.hid hfb
    have hj0 : (0 : Int) ≤ j := by omega
    have HRr := Lib.hid (HR1.out.keep hfb.same)
    have HQr := Lib.hid (hfb.same.heap (by simp; omega) HQ1.out)
    obtain ⟨⟨k0, k1, k2, k3⟩, _⟩ := blk4 HQr.out
    have hlK := blk_lt HQr.out
    have HEr := Lib.hid (HE1.out.keep hfb.same)
    clear hfb
    by_cases hlt : j < ks.length
    · have hltz : (j : Int) < ks.length := by omega
      obtain ⟨ad, rfl⟩ := row_some HRr.out (by omega)
      obtain ⟨A', c', x0, x1, x2, x3, hlc', hrow', _⟩ := ex_some HRr.out j hlt
      have hadlt := World.block_lt_of_cell? wr _ x0
      rw [drop_cons ks j hlt, fillTs_cons] at hans
      have HN := Lib.hid hans
      have HRK := Lib.hid hrow'
      clear hans hrow'
      go_wp2_with fail
      have HF2 := HFB
      obtain ⟨t, ht⟩ : ∃ t, fillT env ks[j] = t := ⟨_, rfl⟩
      have HT := Lib.hid ht
      have HKID : Hid (∀ W, Below wr.heap.size wr W → Calls Tryz.prog 30 #[exV ks[j] A' c', .slice EA env.length ec] W fun r w3 => ∃ B2 d2, r = .returned (exV t B2 d2) ∧ ExF (fun k => k < wr.heap.size) w3 t B2 d2 ∧ Below wr.heap.size wr w3) := Lib.hid (fun W hW => by
        have h := HIH.out j hlt A' c' W ((HRK.out.less (fun k hk => by simp at hk)).keep (Same.of_below (M := []) hW)) hlc' ((HEr.out.less (fun k hk => by simp at hk)).keep (Same.of_below (M := []) hW))
        rw [ht] at h
        refine h.mono ?_
        rintro r w3 ⟨B2, d2, rfl, h1, h2⟩
        exact ⟨B2, d2, rfl, h1.more (fun k hk => .inl (by have := hW.size; omega)), hW.trans (h2.mono hW.size)⟩)
      have hK2 := blk_lt HF2.out.blk
      have f3 := (blk_cell HF2.out.blk 3).trans rfl
      have hsq : qs.length ≤ 2 := by rw [HQL.out]; omega
      clear ht
      obtain ⟨i0, hi0, hz0, hz1, hz2⟩ := info_parts info_ex
      have hsz1 := HF2.out.same.size
      have hbK : K + 1 + 1 < w1.heap.size := by rw [HS1.out]; omega
      have KP : ∀ (w3 w6 : World) (ob : Obj), Below wr.heap.size wr w3 → (w3.alloc ob).grownBy w6 (Value.slice B qs.length b).ownBlock → w6.heap[K + 1 + 1]? = wr.heap[K + 1 + 1]? := fun w3 w6 ob hb hg => by
        have h3 := hb.size
        have ha := (Below.refl w3.heap.size w3).alloc (Nat.le_refl _) ob
        have hno : ∀ k, (Value.slice B qs.length b).ownBlock = some k → w1.heap.size ≤ k := fun k hk => (own_block HFB.out.own k hk).1
        exact ((hg.block (K + 1 + 1) (by simp; omega) (fun e => by have := hno _ e.symm; omega)).trans (ha.block _ (by omega))).trans (hb.block _ hK2)
      have HKP := Lib.hid KP
      clear KP
      go_region_law (first
        | (refine step_append_lies _ (by rfl) _ _ _ (by rfl) w1.heap.size 24 i0 _ 4 56 Tryz.underlying22 hi0 hz0 hz1 hz2 rfl (by omega) (.slice B qs.length b) qs.length (qs.flatMap enc4) (by rfl) ((HF2.out.step hb3).own.alloc _) ⟨w3.heap.size, 0, none⟩ 1 1 [.int .i64 t.op, .int .i64 t.n, .string t.name, .slice B2 t.kids.length d2] (by rfl) (by rfl) (World.news_of_block (cs := #[.int .i64 t.op, .int .i64 t.n, .string t.name, .slice B2 t.kids.length d2]) (t := 24) (fr := (0, 0)) (heap_alloc_new w3 _)) (by simp [Value.oneCell']) (by omega) (by unfold maxLen; omega) (by omega) (by simp; omega) (w3.heap.size + 1) (by simp) ?_; intro g cap w6 hown6 hgrow hat hlt6; have e6 := HKP.out _ _ _ hb3 hgrow; have g6 := (World.frozen?_of_block e6).trans (blk_frozen HF2.out.blk 3); have y6 := (World.cell?_of_block (a := ⟨K + 1 + 1, 3, none⟩) e6).trans f3; have hl6 := blk_lt (e6.trans HF2.out.blk))
        | (go_simp; go_at_call 30; refine (HKID.out _ ?_).mono ?_; (first | exact (Below.refl _ _) | exact (Below.refl _ _).drew); rintro r w3 ⟨B2, d2, rfl, hx3, hb3⟩; have hsz3 := hb3.size; have y3 := (hb3.cell (p := ⟨K + 1 + 1, 3, none⟩) hK2).trans f3; have hK3 := Nat.lt_of_lt_of_le hK2 hsz3; (try go_wp2_with fail)))
      all_goals
        have HP := Lib.hid (HF2.out.push hb3 hx3 hgrow hown6 hat hbK)
        clear x0 x1 x2 x3 hadlt k0 k1 k2 k3 hlK f3 y3 hK3 hx3 hown6 hgrow hat hlt6 e6 g6 y6 hl6 hb3 hsz3
        go_wp2_with fail
        go_roundg gk
        case measure => omega
        case rel => exact ⟨j + 1, qs ++ [(t, B2, d2)], some ⟨g, 0, none⟩, cap, by go_num, by omega, by omega, Lib.hid (by rw [List.length_append, HQL.out]; rfl), HP.out, by rw [List.map_append, List.append_assoc, ← HN.out, HT.out]; rfl⟩
    · have hge : (ks.length : Int) ≤ j := by omega
      rw [List.drop_of_length_le (by omega), fillTs_nil, List.append_nil] at hans
      have hz1 : wr.heap[K + 1]? = some zCell := HFB.out.same.heap (by simp) HZ1.out
      obtain ⟨⟨z0, z1, z2, z3⟩, g0, g1, g2, g3⟩ := blk4 hz1
      obtain ⟨⟨k0, k1, k2, k3⟩, _⟩ := blk4 HFB.out.blk
      have hlz := blk_lt hz1
      have hlk := blk_lt HFB.out.blk
      have HA := Lib.hid hans
      clear hans hz1
      go_wp2_with fail
      refine bodyPost_ret (v := exV (.mk o n nm (qs.map (·.1))) B b) (by simp [results, Tryz.results30, go_sem, Ex.op, Ex.n, Ex.name, Ex.kids, *]) rfl ?_
      rw [← HA.out]
      have hs := same_set4 wr (K + 1) (.int .i64 o) (.int .i64 n) (.string nm) (.slice B qs.length b)
      have hk := HK.out
      have hs1 := HS1.out
      have hb := (((Same.of_below (M := [K + 1 + 1]) HB1.out).then_ HFB.out.same)).below_of (fun k hk => by simp at hk; omega)
      exact ⟨B, b, rfl, (HFB.out.done.keep hs (fun k hk => by simp at hk; omega)).more (fun k hk => .inl (by omega)), below_set4' hb (by omega) _ _ _ _⟩

theorem xfill_any (env : List Cel) (EA : Option Addr) (ec : Nat) (hle : env.length ≤ ec) (hf : ∀ c, c ∈ env → Fits c.n) (N : Nat) : ∀ (e : Ex) (A : Option Addr) (c : Nat) (w : World), SizeOf.sizeOf e < N → ExSh e → exK.Row [] w A e.kids → e.kids.length ≤ c → celK.Row [] w EA env →
    Calls Tryz.prog 30 #[exV e A c, .slice EA env.length ec] w (TreePost (fillT env e) w) := by
  induction N with
  | zero => intro e A c w h; omega
  | succ N ih =>
    intro e A c w hN hs hr hlc he
    cases hs with
    | @leaf op n nm ks h h2 =>
      subst h2
      by_cases h1 : op = 1
      · subst h1
        exact xfill_name n nm A c env EA ec w he hle hf
      · rw [fillT, if_neg h1]
        exact xfill_node op n nm [] A c env EA ec w h1 hr hlc he (by simp) (fun j hj => by simp at hj)
    | @node op n nm ks h1 h2 h3 h4 =>
      rw [fillT, if_neg (by omega)]
      refine xfill_node op n nm ks A c env EA ec w (by omega) hr hlc he (by rw [h3]; unfold eParts; split <;> omega) (fun j hj A' c' W hr' hl' he' => ih _ A' c' W ?_ (h4 _ (List.getElem_mem hj)) hr' hl' he')
      have h7 : SizeOf.sizeOf ks[j] < SizeOf.sizeOf ks := List.sizeOf_lt_of_mem (List.getElem_mem hj)
      simp at hN
      omega
end Go.Proofs.YtgaiheojlmebaaaGreatDoor
