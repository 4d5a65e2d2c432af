/- Walks: whether a recipe is not too great. -/
import Derived.Test.YtgcfjkfipkfijaaGreatDoorMI
import Derived.Test.YtgcfjkfipkfijaaGreatDoorF2
namespace Go.Proofs.YtgcfjkfipkfijaaGreatDoor
open Go Go.RowKit Go.Lib

/-- What is known of a node that comes in; of a recipe that comes in. -/
structure NdOk (x : Nd) : Prop where
  name : x.name.size ≤ 140737488355328
  unit : ∀ u, u ∈ x.units → u.size ≤ 140737488355328
  arg : ∀ a, a ∈ x.args → a.name.size ≤ 140737488355328 ∧ ExOk a.e
  ex : ExOk x.e
structure RecOk (r : Rec) : Prop where
  name : r.name.size ≤ 140737488355328
  prm : ∀ p, p ∈ r.params → p.name.size ≤ 140737488355328 ∧ Fits p.n
  nd : ∀ x, x ∈ r.nodes → NdOk x
/-- A node that is not too great. -/
def NdL (x : Nd) : Prop := x.name.size ≤ 200 ∧ x.units.length ≤ 50 ∧ (∀ u, u ∈ x.units → u.size ≤ 200) ∧ ∀ a, a ∈ x.args → a.name.size ≤ 200
theorem ndN_of {x : Nd} (h : NdOk x) (k : NdL x) : NdN x :=
  ⟨Nat.le_trans k.1 (by decide), Nat.le_trans k.2.1 (by decide), fun u hu => Nat.le_trans (k.2.2.1 u hu) (by decide), fun a ha => ⟨Nat.le_trans (k.2.2.2 a ha) (by decide), (h.arg a ha).2⟩, h.ex⟩
theorem take_all {α : Type} {l : List α} {p : α → Prop} {i : Nat} (h : ∀ x, x ∈ l.take i → p x) (hi : i < l.length) (hx : p l[i]) : ∀ x, x ∈ l.take (i + 1) → p x := fun x hm => by
  rw [List.take_succ_eq_append_getElem hi, List.mem_append] at hm
  rcases hm with hm | hm
  · exact h x hm
  · simp at hm; rw [hm]; exact hx
theorem take_full {α : Type} {l : List α} {p : α → Prop} (h : ∀ x, x ∈ l.take l.length → p x) : ∀ x, x ∈ l → p x := by rwa [List.take_length] at h
def LightPost (r : Rec) (w : World) (e : Ending) (w' : World) : Prop := (∃ b : Bool, e = .returned (.bool b) ∧ (b = true → RecN r)) ∧ Below w.heap.size w w'
theorem light_no {r : Rec} {w w' : World} (h : Below w.heap.size w w') : LightPost r w (.returned (.bool false)) w' := ⟨⟨false, rfl, fun h => by cases h⟩, h⟩
set_option maxHeartbeats 16000000 in
set_option maxRecDepth 100000 in
theorem rlight_any {P : Nat → Prop} (r : Rec) (pA : Option Addr) (pc : Nat) (nA : Option Addr) (nc : Nat) (w : World) (h : RecF P w r pA pc nA nc) (hr : RecOk r) :
    Calls Tryz.prog 12 #[recV r pA pc nA nc] w (LightPost r w) := by
  obtain ⟨w1, hw1⟩ : ∃ w1, w.alloc (.cells #[.string r.name, .slice pA r.params.length pc, .slice nA r.nodes.length nc] 26) = w1 := ⟨_, rfl⟩
  have hb1 : Below w.heap.size w w1 := hw1 ▸ (Below.refl _ _).alloc (Nat.le_refl _) _
  have hx1 : w1.heap[w.heap.size]? = some (.cells #[.string r.name, .slice pA r.params.length pc, .slice nA r.nodes.length nc] 26 (0, 0)) := hw1 ▸ heap_alloc_new _ _
  have hpm := (h.prms.2 [] (by simp)).1
  have hpc := h.prms.1
  have hnm := (h.nds.2 [] (by simp)).1
  have hnc := h.nds.1
  have H := Lib.hid (⟨h.below hb1, hr, hb1, hx1⟩ : _ ∧ _ ∧ _ ∧ _)
  have HW1 := Lib.hid hw1
  obtain ⟨⟨x0, x1, x2⟩, _⟩ := blk3' hx1
  have hlx := blk_lt hx1
  clear h hr hb1 hx1 hw1
  go_enter Tryz.func12, Tryz.ntmps12
  go_upto_region 1 with fail
  rw [HW1.out]
  by_cases h1 : 200 < r.name.size ∨ 50 < r.params.length ∨ 50 < r.nodes.length
  · have key : 200 < r.name.size ∨ ¬ 200 < r.name.size ∧ (50 < r.params.length ∨ ¬ 50 < r.params.length ∧ 50 < r.nodes.length) := by omega
    clear h1
    rcases key with h1 | ⟨h1, h2 | ⟨h2, h3⟩⟩
    all_goals
      go_wp2_with fail
      go_ret
      exact light_no H.out.2.2.1
  have h1a : ¬ 200 < r.name.size := by omega
  have h1b : ¬ 50 < r.params.length := by omega
  have h1c : ¬ 50 < r.nodes.length := by omega
  clear h1
  go_wp2_with fail
  go_loopg [3] (r.params.length + 1) (fun q s3 wz => ∃ i : Nat, s3 = .int .i64 (i : Nat) ∧ i ≤ r.params.length ∧ r.params.length - i < q ∧ (∀ p, p ∈ r.params.take i → p.name.size ≤ 200) ∧ Below w1.heap.size w1 wz)
  case atStart => exact ⟨0, rfl, Nat.zero_le _, by omega, fun p hp => by simp at hp, Below.refl _ _⟩
  case round =>
    obtain ⟨i, rfl, hin, hiq, hal, hbw⟩ := hrel
    obtain ⟨gk, rfl⟩ : ∃ k, gk = k + 1 := ⟨gk - 1, by omega⟩
    have hxr := (hbw.block _ (blk_lt H.out.2.2.2)).trans H.out.2.2.2
    obtain ⟨⟨x0, x1, x2⟩, _⟩ := blk3' hxr
    have hlx := blk_lt hxr
    have hz0 : (0 : Int) ≤ i := by omega
    by_cases hlt : i < r.params.length
    · obtain ⟨ad, rfl, c0, _, _, hpl⟩ := prm_some (H.out.1.below hbw).prms i hlt
      have hzi : (i : Int) < r.params.length := by omega
      have HB := Lib.hid (⟨hal, hbw⟩ : _ ∧ _)
      clear hal hbw hxr
      by_cases h200 : 200 < r.params[i].name.size
      · go_wp2_with fail
        go_ret
        exact light_no (H.out.2.2.1.trans (HB.out.2.mono H.out.2.2.1.size))
      · go_wp2_with fail
        go_roundg gk
        case measure => omega
        case rel => exact ⟨i + 1, by go_num, by omega, by omega, take_all HB.out.1 hlt (by omega), HB.out.2⟩
    · obtain rfl : i = r.params.length := by omega
      have HP := Lib.hid (take_full hal)
      have HB := Lib.hid hbw
      clear hal hbw hxr
      go_wp2_with fail
      go_loopg [4] (r.nodes.length + 1) (fun q s4 wz => ∃ i : Nat, s4 = .int .i64 (i : Nat) ∧ i ≤ r.nodes.length ∧ r.nodes.length - i < q ∧ (∀ x, x ∈ r.nodes.take i → NdL x) ∧ Below w1.heap.size w1 wz)
      case atStart => exact ⟨0, rfl, Nat.zero_le _, by omega, fun p hp => by simp at hp, HB.out⟩
      case round =>
        obtain ⟨i, rfl, hin, hiq, hal, hbw⟩ := hrel
        obtain ⟨gj, rfl⟩ : ∃ k, gk = k + 1 := ⟨gk - 1, by omega⟩
        have hxr := (hbw.block _ (blk_lt H.out.2.2.2)).trans H.out.2.2.2
        obtain ⟨⟨x0, x1, x2⟩, _⟩ := blk3' hxr
        have hlx := blk_lt hxr
        have hz0 : (0 : Int) ≤ i := by omega
        by_cases hlt : i < r.nodes.length
        · have hR := (H.out.1.below hbw).nds
          obtain ⟨ad, rfl⟩ := row_ad hR i hlt
          obtain ⟨kA, kc, uA, uc, gA, gc, eA, ec, ⟨c0, c1, c2, c3, c4, c5, c6, c7, c8⟩, hr1, hr2, hr3, hr4, hnl⟩ := nd_some hR i hlt
          have hok := H.out.2.1.nd _ (List.getElem_mem hlt)
          obtain ⟨x, hx⟩ : ∃ x, r.nodes[i] = x := ⟨_, rfl⟩
          rw [hx] at c0 c1 c2 c3 c4 c5 c6 c7 c8 hr1 hr2 hr3 hr4 hok
          have hzi : (i : Int) < r.nodes.length := by omega
          obtain ⟨w2, hw2⟩ : ∃ w', wr.alloc (.cells #[.int .i64 x.kind, .slice kA x.kids.length kc, .slice uA x.units.length uc, .string x.name, .slice gA x.args.length gc, .int .i64 x.e.op, .int .i64 x.e.n, .string x.e.name, .slice eA x.e.kids.length ec] 43) = w' := ⟨_, rfl⟩
          obtain ⟨N, hN⟩ : ∃ N, wr.heap.size = N := ⟨_, rfl⟩
          have hb2 : Below wr.heap.size wr w2 := hw2 ▸ (Below.refl _ _).alloc (Nat.le_refl _) _
          have hy2 : w2.heap[N]? = some (.cells #[.int .i64 x.kind, .slice kA x.kids.length kc, .slice uA x.units.length uc, .string x.name, .slice gA x.args.length gc, .int .i64 x.e.op, .int .i64 x.e.n, .string x.e.name, .slice eA x.e.kids.length ec] 43 (0, 0)) := by rw [← hN, ← hw2]; exact heap_alloc_new _ _
          have hum := (hr2.2 [] (by simp)).1
          have huc := hr2.1
          have hgm := (hr3.2 [] (by simp)).1
          have hgc := hr3.1
          have HW2 := Lib.hid hw2
          have HN := Lib.hid (⟨hal, hbw.trans (hb2.mono hbw.size), hy2, hok, hr2.below hb2, hr3.below hb2, hx⟩ : _ ∧ _ ∧ _ ∧ _ ∧ _ ∧ _ ∧ _)
          have HWT := Lib.hid (weight_any (SizeOf.sizeOf x.e + 1) x.e eA ec 200 w2 (by omega) (by decide) (by decide) hok.ex ((hr4.below hb2).2 [] (by simp)) hr4.1)
          obtain ⟨⟨y0, y1, y2, y3, y4⟩, y5, y6, y7, y8⟩ := nd9 hy2
          have hly := blk_lt hy2
          have HNN := Lib.hid hN
          clear hal hbw hxr hR hr1 hr2 hr3 hr4 hok hx hw2 hb2 hy2
          go_upto_region 12 with fail
          rw [HW2.out]
          clear x0 x1 x2 hlx c0 c1 c2 c3 c4 c5 c6 c7 c8 hnl
          by_cases h1 : 50 < x.kids.length ∨ 50 < x.units.length ∨ 200 < x.name.size ∨ 50 < x.args.length
          · have key : 50 < x.kids.length ∨ ¬ 50 < x.kids.length ∧ (50 < x.units.length ∨ ¬ 50 < x.units.length ∧ (200 < x.name.size ∨ ¬ 200 < x.name.size ∧ 50 < x.args.length)) := by omega
            clear h1
            rcases key with h1 | ⟨h1, h2 | ⟨h2, h3 | ⟨h3, h4⟩⟩⟩
            all_goals
              go_wp2_with fail
              go_ret
              exact light_no (H.out.2.2.1.trans (HN.out.2.1.mono H.out.2.2.1.size))
          have h1a : ¬ 50 < x.kids.length := by omega
          have h1b : ¬ 50 < x.units.length := by omega
          have h1c' : ¬ 200 < x.name.size := by omega
          have h1d : ¬ 50 < x.args.length := by omega
          clear h1
          go_wp2_with fail
          refine HWT.out.mono ?_
          rintro e w3 ⟨z, rfl, hz1, hz2, hb3⟩
          have H3 := Lib.hid (⟨HN.out.2.1.trans (hb3.mono HN.out.2.1.size), (hb3.block _ hly).trans HN.out.2.2.1, HN.out.2.2.2.2.1.below hb3, HN.out.2.2.2.2.2.1.below hb3⟩ : _ ∧ _ ∧ _ ∧ _)
          clear hb3 y0 y1 y2 y3 y4 y5 y6 y7 y8 hly
          by_cases hz : z = 0
          · subst hz
            go_wp2_with fail
            go_ret
            exact light_no (H.out.2.2.1.trans (H3.out.1.mono H.out.2.2.1.size))
          have hzb := beqf hz
          obtain ⟨⟨_, _, y2, _, y4⟩, _⟩ := nd9 H3.out.2.1
          have hly := blk_lt H3.out.2.1
          go_wp2_with fail
          clear y2 y4 hly
          go_loopg [6] (x.units.length + 1) (fun q s6 wz => ∃ j : Nat, s6 = .int .i64 (j : Nat) ∧ j ≤ x.units.length ∧ x.units.length - j < q ∧ (∀ u, u ∈ x.units.take j → u.size ≤ 200) ∧ Below w3.heap.size w3 wz)
          case atStart => exact ⟨0, rfl, Nat.zero_le _, by omega, fun p hp => by simp at hp, Below.refl _ _⟩
          case round =>
            obtain ⟨j, rfl, hjn, hjq, hul, hbz⟩ := hrel
            obtain ⟨gi, rfl⟩ : ∃ k, gk = k + 1 := ⟨gk - 1, by omega⟩
            have hyr := (hbz.block _ (blk_lt H3.out.2.1)).trans H3.out.2.1
            obtain ⟨⟨_, _, y2, _, y4⟩, _⟩ := nd9 hyr
            have hly := blk_lt hyr
            have hj0 : (0 : Int) ≤ j := by omega
            by_cases hjt : j < x.units.length
            · obtain ⟨ud, rfl, u0, hudl⟩ := cell_some (H3.out.2.2.1.below hbz) j hjt
              have hji : (j : Int) < x.units.length := by omega
              have HZ := Lib.hid (⟨hul, hbz⟩ : _ ∧ _)
              clear hul hbz hyr
              by_cases h200 : 200 < x.units[j].size
              · go_wp2_with fail
                go_ret
                exact light_no (H.out.2.2.1.trans ((H3.out.1.trans (HZ.out.2.mono H3.out.1.size)).mono H.out.2.2.1.size))
              · go_wp2_with fail
                go_roundg gi
                case measure => omega
                case rel => exact ⟨j + 1, by go_num, by omega, by omega, take_all HZ.out.1 hjt (by omega), HZ.out.2⟩
            · obtain rfl : j = x.units.length := by omega
              have HU := Lib.hid (⟨take_full hul, hbz⟩ : _ ∧ _)
              clear hul hbz hyr
              go_wp2_with fail
              clear y2 y4 hly
              go_loopg [7] (x.args.length + 1) (fun q s7 wz => ∃ j : Nat, s7 = .int .i64 (j : Nat) ∧ j ≤ x.args.length ∧ x.args.length - j < q ∧ (∀ a, a ∈ x.args.take j → a.name.size ≤ 200) ∧ Below w3.heap.size w3 wz)
              case atStart => exact ⟨0, rfl, Nat.zero_le _, by omega, fun p hp => by simp at hp, HU.out.2⟩
              case round =>
                obtain ⟨j, rfl, hjn, hjq, hul, hbz⟩ := hrel
                obtain ⟨gi, rfl⟩ : ∃ k, gk = k + 1 := ⟨gk - 1, by omega⟩
                have hyr := (hbz.block _ (blk_lt H3.out.2.1)).trans H3.out.2.1
                obtain ⟨⟨_, _, y2, _, y4⟩, _⟩ := nd9 hyr
                have hly := blk_lt hyr
                have hj0 : (0 : Int) ≤ j := by omega
                by_cases hjt : j < x.args.length
                · have hgr := H3.out.2.2.2.below hbz
                  obtain ⟨gd, rfl⟩ := row_ad hgr j hjt
                  obtain ⟨aA, ac, c0, c1, c2, c3, c4, hex, hgl⟩ := ar_some hgr j hjt
                  have hji : (j : Int) < x.args.length := by omega
                  have hok := (HN.out.2.2.2.1.arg _ (List.getElem_mem hjt)).2
                  have HWA := Lib.hid (weight_any (SizeOf.sizeOf x.args[j].e + 1) x.args[j].e aA ac 200 wr (by omega) (by decide) (by decide) hok (hex.2 [] (by simp)) hex.1)
                  have HZ := Lib.hid (⟨hul, hbz⟩ : _ ∧ _)
                  clear hul hbz hyr hgr hex hok
                  by_cases h200 : 200 < x.args[j].name.size
                  · go_wp2_with fail
                    go_ret
                    exact light_no (H.out.2.2.1.trans ((H3.out.1.trans (HZ.out.2.mono H3.out.1.size)).mono H.out.2.2.1.size))
                  · go_wp2_with fail
                    refine HWA.out.mono ?_
                    rintro e w5 ⟨z', rfl, hz3, hz4, hb5⟩
                    have H5 := Lib.hid (HZ.out.2.trans (hb5.mono HZ.out.2.size))
                    clear hb5 c0 c1 c2 c3 c4 hgl y2 y4 hly
                    by_cases hz' : z' = 0
                    · subst hz'
                      go_wp2_with fail
                      go_ret
                      exact light_no (H.out.2.2.1.trans ((H3.out.1.trans (H5.out.mono H3.out.1.size)).mono H.out.2.2.1.size))
                    · have hzb' := beqf hz'
                      go_wp2_with fail
                      go_roundg gi
                      case measure => omega
                      case rel => exact ⟨j + 1, by go_num, by omega, by omega, take_all HZ.out.1 hjt (by omega), H5.out⟩
                · obtain rfl : j = x.args.length := by omega
                  have HA := Lib.hid (⟨take_full hul, H3.out.1.trans (hbz.mono H3.out.1.size)⟩ : _ ∧ _)
                  clear hul hbz hyr
                  go_wp2_with fail
                  go_roundg gj
                  case measure => omega
                  case rel => exact ⟨i + 1, by go_num, by omega, by omega, take_all HN.out.1 hlt (by rw [HN.out.2.2.2.2.2.2]; exact ⟨by omega, by omega, HU.out.1, HA.out.1⟩), HA.out.2⟩
        · obtain rfl : i = r.nodes.length := by omega
          have HNA := Lib.hid (take_full hal)
          have HB2 := Lib.hid (H.out.2.2.1.trans (hbw.mono H.out.2.2.1.size))
          clear hal hbw hxr
          go_wp2_with fail
          go_ret
          exact ⟨⟨true, rfl, fun _ => ⟨by omega, fun p hp => ⟨Nat.le_trans (HP.out p hp) (by decide), (H.out.2.1.prm p hp).2⟩, fun x hx => ndN_of (H.out.2.1.nd x hx) (HNA.out x hx)⟩⟩, HB2.out⟩
end Go.Proofs.YtgcfjkfipkfijaaGreatDoor
