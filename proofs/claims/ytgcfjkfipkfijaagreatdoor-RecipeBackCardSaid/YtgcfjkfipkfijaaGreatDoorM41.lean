/- The law of how a recipe's nodes hang together: the walk. -/
import Derived.Test.YtgcfjkfipkfijaaGreatDoorMI
import Derived.Test.YtgcfjkfipkfijaaGreatDoorM40
import Derived.Laws.MakeOwn
namespace Go.Proofs.YtgcfjkfipkfijaaGreatDoor
open Go Go.RowKit Go.Lib

theorem Asc.at_ {hi : Int} : ∀ {ks : List Int} {lo : Int}, Asc hi lo ks → ∀ k (h : k < ks.length), (lo :: ks)[k]'(by simp; omega) < ks[k] ∧ ks[k] < hi
  | k0 :: ks, lo, h, 0, _ => ⟨h.1, h.2.1⟩
  | k0 :: ks, lo, h, k + 1, hk => by
    have := Asc.at_ h.2.2 k (by simpa using hk)
    simpa using this
/-- How often each number stands in a list, as a row. -/
def cntA (vs : List Int) (n : Nat) : Array Value := ((List.range n).map fun j => Value.int .i64 (vs.count ((j : Nat) : Int) : Nat)).toArray
theorem cntA_nil (n : Nat) : madeCells #[.int .i64 0] (n * 1) = cntA [] n := by
  unfold madeCells cntA
  apply Array.ext'
  simp only [Array.toList_map, Array.toList_range, Nat.mul_one, List.count_nil]
  refine List.map_congr_left fun j hj => ?_
  simp [Nat.mod_one]
theorem cntA_get (vs : List Int) {n m : Nat} (h : m < n) : (cntA vs n)[m]? = some (.int .i64 (vs.count (m : Int) : Nat)) := by
  unfold cntA
  simp [h]
theorem cntA_push (vs : List Int) {n m : Nat} (h : m < n) : (cntA vs n).setIfInBounds m (.int .i64 ((vs.count (m : Int) : Nat) + 1 : Int)) = cntA (vs ++ [(m : Int)]) n := by
  unfold cntA
  apply Array.ext'
  apply List.ext_getElem?
  intro j
  simp only [List.setIfInBounds_toArray, List.getElem?_set, List.getElem?_map, List.length_map, List.length_range, List.count_append]
  by_cases hj : m = j
  · subst hj
    simp [h]
  · have hj' : (m : Int) ≠ (j : Int) := by omega
    rw [if_neg hj]
    by_cases hjn : j < n
    · rw [List.getElem?_range hjn]
      simp [hj']
    · rw [List.getElem?_eq_none (by simpa using Nat.le_of_not_lt hjn)]
      rfl
theorem allK_take (l : List Nd) (i : Nat) (h : i < l.length) : allK (l.take (i + 1)) = allK (l.take i) ++ l[i].kids := by
  rw [List.take_succ_eq_append_getElem h, allK_app]
  unfold allK
  rw [List.flatMap_cons, List.flatMap_nil, List.append_nil]
theorem cnt_le {l : List Nd} (h : ShapeN l) {i : Nat} (hi : i < l.length) (k : Nat) (j : Int) : (allK (l.take i) ++ l[i].kids.take k).count j ≤ 1 := by
  have h1 := h.one j
  have e : allK l = (allK (l.take i) ++ l[i].kids.take k) ++ (l[i].kids.drop k ++ allK (l.drop (i + 1))) := by
    rw [List.append_assoc, ← List.append_assoc (List.take k _), List.take_append_drop, ← List.append_assoc, ← allK_take l i hi, ← allK_app, List.take_append_drop]
  rw [e, List.count_append] at h1
  split at h1 <;> omega
theorem run_make_ints (n : Nat) (hn : n ≤ 1000) (W : World) : (Instr.makeSlice 36 (.int .i64 (n : Int)) (.int .i64 (n : Int))).run Tryz.prog W = .ok (.slice (some ⟨W.heap.size, 0, none⟩) n n) (W.alloc (.cells (cntA [] n) 3)) := by
  obtain ⟨i0, hi0, hz0, hz1, hz2⟩ := info_parts info_int'
  have hr := run_make (P := Tryz.prog) W 36 3 i0 (.int .i64 0) Tryz.underlying36 hi0 hz0 .i64 .i64 n n (by omega) (by omega) (by rw [hz2]; omega) (by omega)
  simp only [Int.toNat_natCast, hz1] at hr
  rw [show (Value.int IntKind.i64 0).cells = #[.int .i64 0] from rfl, cntA_nil] at hr
  exact hr
theorem cnt_set {w : World} {D n cm v : Nat} {vs : List Int} {t : TypeId} (h : w.heap[D]? = some (.cells (cntA vs n) t (0, 0))) (hcn : cm < n) (hv : vs.count (cm : Int) = v) : (w.setCell ⟨D, cm, none⟩ (.int .i64 ((v : Int) + 1))).heap[D]? = some (.cells (cntA (vs ++ [(cm : Int)]) n) t (0, 0)) := by
  subst hv
  have h1 := blk_set h cm (.int .i64 ((vs.count (cm : Int) : Nat) + 1 : Int))
  rwa [cntA_push _ hcn] at h1
theorem ndAt_nat {l : List Nd} {k : Nat} (h : k < l.length) : ndAt l (k : Int) = l[k] := by
  rw [ndAt_get (by omega) (by omega)]
  rfl
/-- What such a law holds on to. -/
structure HoldR (w0 w : World) : Prop where
  tabs : Tabs w
  below : Below w0.heap.size w0 w
theorem HoldR.step {w0 w w' : World} (h : HoldR w0 w) (hb : Below w.heap.size w w') : HoldR w0 w' := ⟨h.tabs.below hb, h.below.trans (hb.mono h.below.size)⟩
set_option maxHeartbeats 16000000 in
set_option maxRecDepth 100000 in
theorem shape_any (s : ByteArray) (w : World) (hT : Tabs w) (_hs : s.size ≤ maxLen) :
    Calls Tryz.prog 6 #[.string s] w fun r w' => r = .returned (.bool true) ∧ Below w.heap.size w w' := by
  have H0 := Lib.hid (HoldR.mk hT (Below.refl w.heap.size w))
  obtain ⟨⟨⟨r0, ps, nd⟩, e0, a0⟩, hp⟩ : ∃ p, recP s = p := ⟨_, rfl⟩
  have HP := Lib.hid hp
  clear hT hp
  by_cases h3 : (9000 : Int) < s.size
  · clear HP
    go_enter Tryz.func6, Tryz.ntmps6
    go_wp2_with fail
    refine (rawake_any w H0.out.tabs).mono ?_
    rintro r w1 ⟨rfl, hb1⟩
    have H1 := Lib.hid (H0.out.step hb1)
    clear hb1
    go_wp2_with fail
    go_ret
    exact ⟨rfl, H1.out.below⟩
  have h3' : (s.size : Int) ≤ 9000 := by omega
  clear h3
  have HPA : Hid (∀ W, Tabs W → Calls Tryz.prog 9 #[.string s] W (RecPost (⟨r0, ps, nd⟩, e0, a0) W)) := Lib.hid (fun W h => by
    have := rparse_any s W h (by omega)
    rwa [HP.out] at this)
  by_cases he : e0 = 0
  · subst he
    have hS : ShapeN nd := by
      have := shape_read (s := s) (by rw [HP.out])
      rwa [HP.out] at this
    obtain ⟨n, hn⟩ : ∃ n, nd.length = n := ⟨_, rfl⟩
    have hn1 := hS.some
    have hn24 := hS.most
    rw [hn] at hn1 hn24
    have HSH := Lib.hid (⟨hS, hn⟩ : _ ∧ _)
    have hmk := run_make_ints n (by omega)
    clear HP hS
    go_enter Tryz.func6, Tryz.ntmps6
    go_wp2_with fail
    refine (rawake_any w H0.out.tabs).mono ?_
    rintro r w1 ⟨rfl, hb1⟩
    have H1 := Lib.hid (H0.out.step hb1)
    clear hb1
    go_wp2_with fail
    refine (HPA.out w1 H1.out.tabs).mono ?_
    rintro r w2 ⟨pA, pc, nA, nc, rfl, hpp, hnn, hb2⟩
    simp only at hpp hnn
    have hnm := (hnn.2 [] (by simp)).1
    have hnc := hnn.1
    obtain ⟨ad, rfl⟩ := row_ad hnn 0 (by rw [hn]; omega)
    obtain ⟨w3, hw3⟩ : ∃ w', w2.alloc (.cells #[.string r0, .slice pA ps.length pc, .slice (some ad) n nc] 26) = w' := ⟨_, rfl⟩
    have hb3 : Below w2.heap.size w2 w3 := hw3 ▸ (Below.refl _ _).alloc (Nat.le_refl _) _
    obtain ⟨K, hK⟩ : ∃ K, w2.heap.size = K := ⟨_, rfl⟩
    have hx3 : w3.heap[K]? = some (.cells #[.string r0, .slice pA ps.length pc, .slice (some ad) n nc] 26 (0, 0)) := by rw [← hK, ← hw3]; exact heap_alloc_new _ _
    have hN3 := (hnn.more (Q := fun k => w2.heap.size ≤ k) (fun k hk => .inr hk)).below hb3
    have H3 := Lib.hid (⟨(H1.out.step hb2).step hb3, hN3, hx3⟩ : _ ∧ _ ∧ _)
    have HW3 := Lib.hid hw3
    rw [hK] at hN3
    clear hb2 hpp hnn hb3 hw3 hx3
    simp only [hn] at hnm hnc
    obtain ⟨⟨x0, x1, x2⟩, _⟩ := blk3' H3.out.2.2
    have hlx := blk_lt H3.out.2.2
    go_upto_region 7 with fail
    rw [HW3.out]
    obtain ⟨w4, hw4⟩ : ∃ w', w3.alloc (.cells (cntA [] n) 3) = w' := ⟨_, rfl⟩
    obtain ⟨D, hD⟩ : ∃ D, w3.heap.size = D := ⟨_, rfl⟩
    have hb4 : Below w3.heap.size w3 w4 := hw4 ▸ (Below.refl _ _).alloc (Nat.le_refl _) _
    have hd4 : w4.heap[D]? = some (.cells (cntA [] n) 3 (0, 0)) := by rw [← hD, ← hw4]; exact heap_alloc_new _ _
    have hKD : K < D := by rw [← hD]; exact hlx
    have H4 := Lib.hid (⟨H3.out.1.step hb4, H3.out.2.1.below hb4, (hb4.block K hlx).trans H3.out.2.2, hd4⟩ : _ ∧ _ ∧ _ ∧ _)
    have HW4 := Lib.hid hw4
    have h2D : w2.heap.size ≤ D := by omega
    clear hb4 hd4 hw4 hN3
    go_upto_region 8 with fail
    rw [HW4.out]
    clear hmk x0 x1 x2 hlx
    go_wp2_with fail
    go_loopg [8] (n + 1) (fun q s8 wr => ∃ i : Nat, s8 = .int .i64 (i : Nat) ∧ i ≤ n ∧ n - i < q ∧ wr.heap[D]? = some (.cells (cntA (allK (nd.take i)) n) 3 (0, 0)) ∧ Same [D] w4 wr)
    case atStart => exact ⟨0, rfl, Nat.zero_le _, by omega, H4.out.2.2.2, Same.refl _ _⟩
    case round =>
      obtain ⟨i, rfl, hin, hiq, hdr, hsr⟩ := hrel
      obtain ⟨gk, rfl⟩ : ∃ k, gk = k + 1 := ⟨gk - 1, by omega⟩
      have hxr := hsr.heap (k := K) (by simp; omega) H4.out.2.2.1
      obtain ⟨⟨x0, x1, x2⟩, _⟩ := blk3' hxr
      have hlx := blk_lt hxr
      have hz0 : (0 : Int) ≤ i := by omega
      by_cases hlt : i < n
      · have hix : i < nd.length := by rw [HSH.out.2]; exact hlt
        have hR := H4.out.2.1.keep hsr (fun k hk => by simp at hk; omega)
        obtain ⟨kA, kc, uA, uc, gA, gc, eA, ec, ⟨c0, c1, c2, c3, c4, c5, c6, c7, c8⟩, hkr, hr2, hr3, hr4, hnl⟩ := nd_some hR i hix
        have hNK := HSH.out.1.node i hix
        have hcnt := cnt_le HSH.out.1 hix
        have hal := allK_take nd i hix
        obtain ⟨x, hx⟩ : ∃ x, nd[i] = x := ⟨_, rfl⟩
        rw [hx] at c0 c1 c2 c3 c4 c5 c6 c7 c8 hkr hNK hcnt hal
        rw [HSH.out.2] at hNK
        obtain ⟨w5, hw5⟩ : ∃ w', wr.alloc (.cells #[.int .i64 x.kind, .slice kA x.kids.length kc, .slice uA x.units.length uc, .string x.name, .slice gA x.args.length gc, .int .i64 x.e.op, .int .i64 x.e.n, .string x.e.name, .slice eA x.e.kids.length ec] 43) = w' := ⟨_, rfl⟩
        obtain ⟨N, hN⟩ : ∃ N, wr.heap.size = N := ⟨_, rfl⟩
        have hb5 : Below wr.heap.size wr w5 := hw5 ▸ (Below.refl _ _).alloc (Nat.le_refl _) _
        have hy5 : w5.heap[N]? = some (.cells #[.int .i64 x.kind, .slice kA x.kids.length kc, .slice uA x.units.length uc, .string x.name, .slice gA x.args.length gc, .int .i64 x.e.op, .int .i64 x.e.n, .string x.e.name, .slice eA x.e.kids.length ec] 43 (0, 0)) := by rw [← hN, ← hw5]; exact heap_alloc_new _ _
        have hDN : D < N := by rw [← hN]; exact blk_lt hdr
        have H5 := Lib.hid (⟨hsr.then_ (Same.of_below hb5), (hb5.block D (blk_lt hdr)).trans hdr, (hb5.block K hlx).trans hxr, hy5, hkr.below hb5, hR.below hb5⟩ : _ ∧ _ ∧ _ ∧ _ ∧ _ ∧ _)
        have HK := Lib.hid (⟨hNK, hcnt, hal⟩ : _ ∧ _ ∧ _)
        have hkm := (hkr.2 [] (by simp)).1
        have hkc := hkr.1
        have HW5 := Lib.hid hw5
        clear hdr hsr hxr hR hkr hr2 hr3 hr4 hNK hcnt hal hx hw5 hb5 hy5 hix
        go_wp2_with fail
        rw [HW5.out]
        clear x0 x1 x2 hlx c0 c1 c2 c3 c4 c5 c6 c7 c8 hnl
        go_loopg [10, 11] (x.kids.length + 1) (fun q s10 s11 wz => ∃ (k : Nat) (m : Int), s10 = .int .i64 m ∧ s11 = .int .i64 (k : Nat) ∧ k ≤ x.kids.length ∧ x.kids.length - k < q ∧ 0 ≤ m ∧ m = ((i : Int) :: x.kids).getD k 0 ∧ wz.heap[D]? = some (.cells (cntA (allK (nd.take i) ++ x.kids.take k) n) 3 (0, 0)) ∧ Same [D] w5 wz)
        case atStart => exact ⟨0, i, rfl, rfl, Nat.zero_le _, by omega, hz0, rfl, by rw [List.take_zero, List.append_nil]; exact H5.out.2.1, Same.refl _ _⟩
        case round =>
          obtain ⟨k, m, rfl, rfl, hkl, hkq, hm0, hm, hdz, hsz⟩ := hrel
          obtain ⟨gj, rfl⟩ : ∃ k, gk = k + 1 := ⟨gk - 1, by omega⟩
          have hyz := hsz.heap (k := N) (by simp; omega) H5.out.2.2.2.1
          obtain ⟨⟨y0, y1, y2, y3, y4⟩, y5, y6, y7, y8⟩ := nd9 hyz
          have hly := blk_lt hyz
          have hxz := hsz.heap (k := K) (by simp; omega) H5.out.2.2.1
          obtain ⟨⟨x0, x1, x2⟩, _⟩ := blk3' hxz
          have hlx := blk_lt hxz
          have hk0 : (0 : Int) ≤ k := by omega
          by_cases hkt : k < x.kids.length
          · have hkrz := H5.out.2.2.2.2.1.keep hsz (fun k hk => by simp at hk; omega)
            obtain ⟨kd, rfl, e0, hel⟩ := int_some hkrz k hkt
            have hasc := HK.out.1.asc.at_ k hkt
            have hmx : m = ((i : Int) :: x.kids)[k]'(by simp; omega) := by rw [hm, List.getD_eq_getElem?_getD, List.getElem?_eq_getElem (by simp; omega)]; rfl
            rw [← hmx] at hasc
            obtain ⟨c, hc⟩ : ∃ c, x.kids[k] = c := ⟨_, rfl⟩
            rw [hc] at e0 hasc
            obtain ⟨cm, rfl⟩ : ∃ cm : Nat, c = cm := ⟨c.toNat, by omega⟩
            have hcn : cm < n := by omega
            have hc1 : ¬ (cm : Int) ≤ m := by omega
            have hc2 : ¬ (n : Int) ≤ (cm : Int) := by omega
            have hb1 : decide ((cm : Int) ≤ m) = false := decide_eq_false hc1
            have hb2 : decide ((n : Int) ≤ (cm : Int)) = false := decide_eq_false hc2
            have hv := HK.out.2.1 k cm
            obtain ⟨v, hvv⟩ : ∃ v, (allK (nd.take i) ++ x.kids.take k).count (cm : Int) = v := ⟨_, rfl⟩
            rw [hvv] at hv
            have hdc : wr.cell? ⟨D, cm, none⟩ = some (.int .i64 (v : Nat)) := by rw [blk_cell hdz cm, cntA_get _ hcn, hvv]
            have hfz := Lib.frozen_of_heap hdz cm
            have hld := blk_lt hdz
            have hadd : IntKind.i64.wrap ((v : Int) + 1) = v + 1 := IntWalk.i64_in _ (by omega)
            have hkz : (k : Int) < x.kids.length := by omega
            have HZ := Lib.hid (⟨hdz, hsz, hvv, hc⟩ : _ ∧ _ ∧ _ ∧ _)
            clear hdz hsz hyz hxz hkrz hm hmx hvv hc
            go_wp2_with fail
            go_region
            all_goals
              go_wp2_with fail
              go_roundg gj
              case measure => omega
              case rel =>
                obtain ⟨hdz, hsz, hvv, hc⟩ := HZ.out
                refine ⟨k + 1, cm, rfl, by go_num, by omega, by omega, by omega, ?_, ?_, ?_⟩
                · rw [List.getD_cons_succ, List.getD_eq_getElem?_getD, List.getElem?_eq_getElem hkt, hc]; rfl
                · rw [List.take_succ_eq_append_getElem hkt, hc, ← List.append_assoc]
                  exact cnt_set hdz hcn hvv
                · exact hsz.drew.setCell (p := ⟨D, cm, none⟩) (.inl (by simp)) _
          · obtain rfl : k = x.kids.length := by omega
            have hR := H5.out.2.2.2.2.2.keep hsz (fun k hk => by simp at hk; omega)
            have hkr := H5.out.2.2.2.2.1.keep hsz (fun k hk => by simp at hk; omega)
            rw [List.take_length, ← HK.out.2.2] at hdz
            have HZ := Lib.hid (⟨hdz, H5.out.1.then_ hsz⟩ : _ ∧ _)
            have hun := HK.out.1.unit
            clear hdz hsz hyz hxz hm
            have tail : ∀ W : World, W = wr ∨ W = wr.drew → W.heap[D]? = some (.cells (cntA (allK (nd.take (i + 1))) n) 3 (0, 0)) ∧ Same [D] w4 W := fun W hW => by
              rcases hW with rfl | rfl
              · exact HZ.out
              · exact ⟨HZ.out.1, HZ.out.2.drew⟩
            have HT := Lib.hid tail
            clear tail
            go_upto_region 20 with fail
            by_cases k4 : x.kind = 4
            · obtain ⟨a, b, hab, ha, hb⟩ := HK.out.1.two k4
              have hasc := HK.out.1.asc
              rw [hab] at hasc
              obtain ⟨a1, a2, b1, b2, b3⟩ := hasc
              obtain ⟨an, rfl⟩ : ∃ an : Nat, a = an := ⟨a.toNat, by omega⟩
              obtain ⟨bn, rfl⟩ : ∃ bn : Nat, b = bn := ⟨b.toNat, by omega⟩
              rw [hab] at hkr
              obtain ⟨kd, rfl, e0, hel⟩ := int_some hkr 0 (by simp)
              obtain ⟨kd', ek, e1, _⟩ := int_some hkr 1 (by simp)
              injection ek with ek
              subst ek
              have hal : an < nd.length := by rw [HSH.out.2]; omega
              have hbl : bn < nd.length := by rw [HSH.out.2]; omega
              obtain ⟨_, _, _, _, _, _, _, _, ⟨f0, _⟩, _, _, _, _, fl⟩ := nd_some hR an hal
              obtain ⟨_, _, _, _, _, _, _, _, ⟨g0, _⟩, _, _, _, _, gl⟩ := nd_some hR bn hbl
              rw [← ndAt_nat, ha] at f0
              rw [← ndAt_nat, hb] at g0
              have hu0 : x.units.length = 0 := by
                rw [List.length_eq_zero_iff]
                exact Decidable.byContradiction fun h => by have := hun.2 h; omega
              have hkc2 := hkr.1
              have hk2 : x.kids.length = 2 := by rw [hab]; rfl
              rw [k4] at y0
              rw [hk2] at y1
              rw [hu0] at y2
              have e0' : wr.cell? kd = some (.int .i64 (an : Int)) := e0
              have e1' : wr.cell? ⟨kd.block, kd.off + 1, none⟩ = some (.int .i64 (bn : Int)) := e1
              have ab1 : (an : Int) < n := a2
              have ab2 : (bn : Int) < n := b2
              have ab3 : (0 : Int) ≤ an := by omega
              have ab4 : (0 : Int) ≤ bn := by omega
              clear hkr hR hab ha hb a1 a2 b1 b2 b3 e0 e1 hun k4 hk2 hu0
              go_region
              all_goals
                go_wp2_with fail
                go_roundg gk
                case measure => omega
                case rel => exact ⟨i + 1, by go_num, by omega, by omega, HT.out _ (by first | exact .inl rfl | exact .inr rfl)⟩
            · have hf4 := beqf k4
              have key : (x.kind = 3 ∧ x.kids.length = 0 ∧ x.units.length = 0) ∨ (x.kind = 2 ∧ decide (0 < x.units.length) = true) ∨ ((x.kind == 3) = false ∧ (x.kind == 2) = false ∧ x.units.length = 0) := by
                by_cases k3 : x.kind = 3
                · refine .inl ⟨k3, by rw [HK.out.1.leaf k3]; rfl, ?_⟩
                  rw [List.length_eq_zero_iff]
                  exact Decidable.byContradiction fun h => by have := hun.2 h; omega
                · by_cases k2 : x.kind = 2
                  · exact .inr (.inl ⟨k2, decide_eq_true (List.length_pos_iff.2 (hun.1 k2))⟩)
                  · refine .inr (.inr ⟨beqf k3, beqf k2, ?_⟩)
                    rw [List.length_eq_zero_iff]
                    exact Decidable.byContradiction fun h => k2 (hun.2 h)
              clear hkr hR hun k4
              rcases key with ⟨k3, k5, k6⟩ | ⟨k2, k6⟩ | ⟨k3, k2, k6⟩
              · rw [k3] at y0 hf4
                rw [k5] at y1
                rw [k6] at y2
                clear k3 k5 k6
                go_region
                all_goals
                  go_wp2_with fail
                  go_roundg gk
                  case measure => omega
                  case rel => exact ⟨i + 1, by go_num, by omega, by omega, HT.out _ (by first | exact .inl rfl | exact .inr rfl)⟩
              · rw [k2] at y0 hf4
                have k7 : 0 < x.units.length := of_decide_eq_true k6
                clear k2
                go_region
                all_goals
                  go_wp2_with fail
                  go_roundg gk
                  case measure => omega
                  case rel => exact ⟨i + 1, by go_num, by omega, by omega, HT.out _ (by first | exact .inl rfl | exact .inr rfl)⟩
              · rw [k6] at y2
                clear k6
                go_region
                all_goals
                  go_wp2_with fail
                  go_roundg gk
                  case measure => omega
                  case rel => exact ⟨i + 1, by go_num, by omega, by omega, HT.out _ (by first | exact .inl rfl | exact .inr rfl)⟩
      · obtain rfl : i = n := by omega
        rw [List.take_of_length_le (by rw [HSH.out.2]; exact Nat.le_refl _)] at hdr
        have HD := Lib.hid (⟨hdr, hsr⟩ : _ ∧ _)
        clear hdr hsr hxr
        go_wp2_with fail
        go_loopg [12] (i + 1) (fun q s12 wz => ∃ j : Nat, s12 = .int .i64 (j : Nat) ∧ j ≤ i ∧ i - j < q ∧ wz = wr)
        case atStart => exact ⟨0, rfl, Nat.zero_le _, by omega, rfl⟩
        case round =>
          obtain ⟨j, rfl, hjn, hjq, rfl⟩ := hrel
          obtain ⟨gj, rfl⟩ : ∃ k, gk = k + 1 := ⟨gk - 1, by omega⟩
          have hj0 : (0 : Int) ≤ j := by omega
          by_cases hjt : j < i
          · have hjz : (j : Int) < i := by omega
            have hone := HSH.out.1.one j
            rw [HSH.out.2] at hone
            have hdc : wr.cell? ⟨D, j, none⟩ = some (.int .i64 ((allK nd).count (j : Int) : Nat)) := by rw [blk_cell HD.out.1 j, cntA_get _ hjt]
            have hld := blk_lt HD.out.1
            by_cases hj1 : j = 0
            · subst hj1
              rw [if_neg (by omega)] at hone
              rw [hone] at hdc
              clear hone
              go_wp2_with fail
              go_roundg gj
              case measure => omega
              case rel => exact ⟨0 + 1, by go_num, by omega, by omega, rfl⟩
            · rw [if_pos (by omega)] at hone
              rw [hone] at hdc
              have hjb : ((j : Int) == 0) = false := beqf (by omega)
              have hjc : 0 < j := by omega
              clear hone
              go_wp2_with fail
              go_roundg gj
              case measure => omega
              case rel => exact ⟨j + 1, by go_num, by omega, by omega, rfl⟩
          · obtain rfl : j = i := by omega
            have hrt := HSH.out.1.root
            have hR := H4.out.2.1.keep HD.out.2 (fun k hk => by simp at hk; omega)
            have h0l : 0 < nd.length := by rw [HSH.out.2]; omega
            obtain ⟨_, _, _, _, _, _, _, _, ⟨f0, _⟩, _, _, _, _, fl⟩ := nd_some hR 0 h0l
            rw [← ndAt_nat] at f0
            rw [show ndAt nd ((0 : Nat) : Int) = ndAt nd 0 from rfl, hrt] at f0
            have f0' : wr.cell? ad = some (.int .i64 0) := f0
            have fl' : ad.block < wr.heap.size := fl
            have HE : Hid (Below w.heap.size w wr) := Lib.hid (by
              have hw4 := H4.out.1.below
              have h2w := H1.out.below.size
              exact ((Same.of_below (M := [D]) hw4).trans HD.out.2 (fun x hx => .inl hx)).below_of (fun k hk => by
                simp at hk
                subst hk
                have := H3.out.1.below.size
                omega))
            clear hR hrt f0 fl
            go_wp2_with fail
            go_ret
            exact ⟨rfl, HE.out⟩
  · have t1 := bnet he
    clear HP
    go_enter Tryz.func6, Tryz.ntmps6
    go_wp2_with fail
    refine (rawake_any w H0.out.tabs).mono ?_
    rintro r w1 ⟨rfl, hb1⟩
    have H1 := Lib.hid (H0.out.step hb1)
    clear hb1
    go_wp2_with fail
    refine (HPA.out w1 H1.out.tabs).mono ?_
    rintro r w2 ⟨pA, pc, nA, nc, rfl, _, _, hb2⟩
    have hb3 : Below w2.heap.size w2 (w2.alloc (.cells #[.string r0, .slice pA ps.length pc, .slice nA nd.length nc] 26)) := (Below.refl _ _).alloc (Nat.le_refl _) _
    have H2 := Lib.hid ((H1.out.step hb2).step hb3)
    clear hb2 hb3
    go_wp2_with fail
    go_ret
    exact ⟨rfl, H2.out.below⟩
end Go.Proofs.YtgcfjkfipkfijaaGreatDoor
