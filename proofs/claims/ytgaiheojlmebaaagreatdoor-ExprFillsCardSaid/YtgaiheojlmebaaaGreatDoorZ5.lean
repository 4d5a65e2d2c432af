/- Walks: the reference's names. Walks: the reference's Names; are two lists the same? -/
import Derived.Test.YtgaiheojlmebaaaGreatDoorZ3
import Derived.Test.YtgaiheojlmebaaaGreatDoorS0
import Derived.BigQuiet
/-! Walks: the reference's names. -/
namespace Go.Proofs.YtgaiheojlmebaaaGreatDoor
open Go Go.RowKit Go.Lib Go.Sort

theorem insX_len (x : Bs) : ∀ (l : List Bs) (d : Bool), (insX x d l).length ≤ l.length + 1
  | [], d => by cases d <;> simp [insX]
  | y :: ys, d => by
    rw [insX]
    split
    · rw [insX_done]; simp
    · have := insX_len x ys d
      rw [List.length_cons, List.length_cons]; omega
theorem insE_len (N : Nat) : (∀ e : Ex, SizeOf.sizeOf e < N → ExSh e → ∀ l, (insE e l).length ≤ l.length + (nmE e).length) ∧ (∀ ks : List Ex, SizeOf.sizeOf ks < N → (∀ k, k ∈ ks → ExSh k) → ∀ l, (insEs ks l).length ≤ l.length + (nmEs ks).length) := by
  induction N with
  | zero => exact ⟨fun _ h => absurd h (by omega), fun _ h => absurd h (by omega)⟩
  | succ N ih =>
    refine ⟨fun e he hs l => ?_, fun ks hk hs l => ?_⟩
    · cases hs with
      | @leaf op n nm ks h h2 =>
        subst h2
        rw [insE, nmE]
        by_cases h1 : op = 1
        · rw [if_pos h1, if_pos h1, insEs]
          unfold insR
          split
          · omega
          · exact insX_len _ _ _
        · rw [if_neg h1, if_neg h1, insEs]; omega
      | @node op n nm ks h1 h2 h3 h4 =>
        rw [insE, nmE, if_neg (by omega), if_neg (by omega)]
        exact ih.2 ks (by simp at he; omega) h4 l
    · cases ks with
      | nil => rw [insEs]; omega
      | cons k ks =>
        rw [insEs_cons, nmEs_cons, List.length_append]
        have a := ih.1 k (by simp at hk; omega) (hs k (by simp)) l
        have b := ih.2 ks (by simp at hk; omega) (fun x hx => hs x (by simp [hx])) (insE k l)
        omega
theorem own_sRow {w : World} {base : Nat} {B : Option Addr} {b : Nat} {l : List Bs} (h : OwnS w base (.slice B l.length b) l) : l.length ≤ b ∧ sK.Row [] w B l := by
  have e : ∀ l : List Bs, l.flatMap (fun x => [encStr x]) = l.map encStr := fun l => by induction l <;> simp_all
  obtain ⟨A2, c2, e2, h2, h3⟩ := row_of_own (d := sK) (enc := fun x => [encStr x]) (fun _ => rfl) (M := []) (xs := l) (v := .slice B l.length b) (base := base) (e := 9) (w := w) (by rw [e]; exact h) (fun k hk => by simp at hk) (fun x _ => sK_rep)
  injection e2 with e2 _ e3
  subst e2 e3
  exact ⟨h2, h3⟩
/-- What the reference's names hands back. -/
def InPost (l : List Bs) (w : World) (r : Ending) (w' : World) : Prop := ∃ A c, r = .returned (.slice A l.length c) ∧ l.length ≤ c ∧ sK.Row [] w' A l ∧ Below w.heap.size w w'

set_option maxHeartbeats 8000000 in
set_option maxRecDepth 100000 in
theorem xnames_node (o n : Int) (nm : ByteArray) (ks : List Ex) (A : Option Addr) (c : Nat) (L : Option Addr) (lc : Nat) (l : List Bs) (w : World) (ho1 : o ≠ 1) (hr : exK.Row [] w A ks) (hlc : ks.length ≤ c) (hl : sK.Row [] w L l) (hll : l.length ≤ lc)
    (ih : ∀ (j : Nat) (hj : j < ks.length) (A' : Option Addr) (c' : Nat) (L : Option Addr) (lc : Nat) (tt : List Bs) (W : World), exK.Row [] W A' ks[j].kids → ks[j].kids.length ≤ c' → sK.Row [] W L tt → tt.length ≤ lc → tt.length + (nmE ks[j]).length ≤ 1000 →
      Calls Tryz.prog 24 #[exV ks[j] A' c', .slice L tt.length lc] W (InPost (insE ks[j] tt) W))
    (hs : ∀ k, k ∈ ks → ExSh k) (hB : l.length + (nmEs ks).length ≤ 1000) :
    Calls Tryz.prog 24 #[.agg #[.int .i64 o, .int .i64 n, .string nm, .slice A ks.length c], .slice L l.length lc] w (InPost (insEs ks l) w) := by
  have HIH := Lib.hid ih
  have HS := Lib.hid hs
  have hmax := hr.1
  have hmz : (ks.length : Int) ≤ 9223372036854775807 := by omega
  have hlcz : (ks.length : Int) ≤ c := by omega
  have o1 : (o != 1) = true := bnet ho1
  obtain ⟨ANS, hANS⟩ : ∃ x, insEs ks l = x := ⟨_, rfl⟩
  rw [hANS]
  have HANS := Lib.hid hANS
  obtain ⟨w0, hw0⟩ : ∃ w', w.alloc (.cells #[.int .i64 o, .int .i64 n, .string nm, .slice A ks.length c] 24 (0, 0)) = w' := ⟨_, rfl⟩
  have hb0 : Below w.heap.size w w0 := hw0 ▸ (Below.refl _ _).alloc (Nat.le_refl _) _
  have hq0 : w0.heap[w.heap.size]? = some (.cells #[.int .i64 o, .int .i64 n, .string nm, .slice A ks.length c] 24 (0, 0)) := hw0 ▸ heap_alloc_new _ _
  obtain ⟨K, hK⟩ : ∃ K, w.heap.size = K := ⟨_, rfl⟩
  have HB0 := Lib.hid hb0
  have HQ0 : Hid (w0.heap[K]? = some (.cells #[.int .i64 o, .int .i64 n, .string nm, .slice A ks.length c] 24 (0, 0))) := Lib.hid (by rw [← hK]; exact hq0)
  have HR := Lib.hid (hr.keep (Same.of_below (M := []) hb0))
  have HL := Lib.hid (hl.keep (Same.of_below (M := []) hb0))
  have HW0 := Lib.hid hw0
  obtain ⟨⟨z0, z1, z2, z3⟩, _⟩ := blk4' HQ0.out
  have hlK := blk_lt HQ0.out
  clear ih hs hr hl hANS hb0 hq0 hw0 ho1
  go_enter Tryz.func24, Tryz.ntmps24
  go_wp2_with fail
  rw [HW0.out]
  clear hK
  go_loopg [1, 5] (ks.length + 1) (fun k s1 s5 w' => ∃ (j : Nat) (tt : List Bs) (B : Option Addr) (b : Nat), s5 = .int .i64 j ∧ s1 = .slice B tt.length b ∧ j ≤ ks.length ∧ ks.length - j < k ∧ tt.length ≤ b ∧ sK.Row [] w' B tt ∧ tt.length + (nmEs (ks.drop j)).length ≤ 1000 ∧ insEs (ks.drop j) tt = ANS ∧ Below w0.heap.size w0 w')
  case atStart => exact ⟨0, l, L, lc, rfl, rfl, by omega, by omega, hll, HL.out, hB, HANS.out, Below.refl _ _⟩
  case round =>
    obtain ⟨j, tt, B, b, rfl, rfl, hj, hjk, htb, hrow, hbb, hans, hbl⟩ := hrel
    obtain ⟨gk, rfl⟩ : ∃ k, gk = k + 1 := ⟨gk - 1, by omega⟩
    have HBL := Lib.hid hbl
    have HT := Lib.hid hrow
    have hq := (hbl.block K (blk_lt HQ0.out)).trans HQ0.out
    have hj0 : (0 : Int) ≤ j := by omega
    clear z0 z1 z2 z3 hlK
    obtain ⟨⟨z0, z1, z2, z3⟩, _⟩ := blk4' hq
    have hlK := blk_lt hq
    have HRr := Lib.hid (HR.out.keep (Same.of_below (M := []) hbl))
    clear hq hrow hbl
    by_cases hlt : j < ks.length
    · have hltz : (j : Int) < ks.length := by omega
      obtain ⟨ad, rfl⟩ := row_some HRr.out (by omega)
      obtain ⟨A', c', x0, x1, x2, x3, hlc', hrow', _⟩ := ex_some HRr.out j hlt
      have hadlt := World.block_lt_of_cell? wr _ x0
      rw [drop_cons ks j hlt, insEs_cons] at hans
      rw [drop_cons ks j hlt, nmEs_cons, List.length_append] at hbb
      have HKID := Lib.hid (HIH.out j hlt A' c' B b tt wr hrow' hlc' HT.out htb (by omega))
      have hil := (insE_len (SizeOf.sizeOf ks[j] + 1)).1 ks[j] (by omega) (HS.out _ (List.getElem_mem hlt)) tt
      have HN := Lib.hid hans
      clear hans hrow'
      go_wp2_with fail
      refine HKID.out.mono ?_
      rintro r w3 ⟨B3, b3, rfl, hl3, hr3, hb3⟩
      have HB3 := Lib.hid (HBL.out.trans (hb3.mono HBL.out.size))
      have HR3 := Lib.hid hr3
      clear hr3 hb3 z0 z1 z2 z3 hlK x0 x1 x2 x3 hadlt
      go_wp2_with fail
      go_roundg gk
      case measure => omega
      case rel => exact ⟨j + 1, insE ks[j] tt, B3, b3, by go_num, rfl, by omega, by omega, hl3, HR3.out, by omega, HN.out, HB3.out⟩
    · have hge : (ks.length : Int) ≤ j := by omega
      rw [List.drop_of_length_le (by omega), insEs] at hans
      subst hans
      go_wp2_with fail
      go_ret
      exact ⟨B, b, rfl, htb, HT.out, HB0.out.trans (HBL.out.mono HB0.out.size)⟩

set_option maxHeartbeats 16000000 in
set_option maxRecDepth 100000 in
theorem xnames_leaf (n : Int) (nm : ByteArray) (A : Option Addr) (c : Nat) (L : Option Addr) (lc : Nat) (l : List Bs) (w : World) (hl : sK.Row [] w L l) (hll : l.length ≤ lc) (hB : l.length ≤ 1000) :
    Calls Tryz.prog 24 #[.agg #[.int .i64 1, .int .i64 n, .string nm, .slice A 0 c], .slice L l.length lc] w (InPost (insR nm.data.toList l) w) := by
  obtain ⟨w0, hw0⟩ : ∃ w', w.alloc (.cells #[.int .i64 1, .int .i64 n, .string nm, .slice A 0 c] 24 (0, 0)) = w' := ⟨_, rfl⟩
  have hb0 : Below w.heap.size w w0 := hw0 ▸ (Below.refl _ _).alloc (Nat.le_refl _) _
  have hq0 : w0.heap[w.heap.size]? = some (.cells #[.int .i64 1, .int .i64 n, .string nm, .slice A 0 c] 24 (0, 0)) := hw0 ▸ heap_alloc_new _ _
  obtain ⟨K, hK⟩ : ∃ K, w.heap.size = K := ⟨_, rfl⟩
  have HB0 := Lib.hid hb0
  have HQ0 : Hid (w0.heap[K]? = some (.cells #[.int .i64 1, .int .i64 n, .string nm, .slice A 0 c] 24 (0, 0))) := Lib.hid (by rw [← hK]; exact hq0)
  have HL := Lib.hid (hl.keep (Same.of_below (M := []) hb0))
  have HW0 := Lib.hid hw0
  have hlz : (l.length : Int) ≤ 1000 := by omega
  have hllz : (l.length : Int) ≤ lc := by omega
  obtain ⟨⟨z0, z1, z2, z3⟩, _⟩ := blk4' HQ0.out
  have hlK := blk_lt HQ0.out
  clear hl hb0 hq0 hw0
  go_enter Tryz.func24, Tryz.ntmps24
  go_wp2_with fail
  rw [HW0.out]
  clear hK
  go_loopg [1, 5] 2 (fun k s1 s5 w' => s1 = .slice L l.length lc ∧ s5 = .int .i64 0 ∧ 0 < k ∧ w' = w0)
  case atStart => exact ⟨rfl, rfl, by decide, rfl⟩
  case round =>
    obtain ⟨rfl, rfl, hk0, hw⟩ := hrel
    rw [hw]
    clear hw
    go_wp2_with fail
    obtain ⟨x, hx⟩ : ∃ x, nm.data.toList = x := ⟨_, rfl⟩
    obtain ⟨AN, hAN⟩ : ∃ a, insX x false l = a := ⟨_, rfl⟩
    have HAN := Lib.hid hAN
    have HXN := Lib.hid hx
    rw [hx]
    clear hx hAN
    have hs0 : w0.heap.size ≤ w0.heap.size := Nat.le_refl _
    obtain ⟨i0, hi0, hz0, hz1, hz2⟩ := info_parts info_str
    go_loopg [6, 7, 8] (l.length + 1) (fun k s6 s7 s8 w' => ∃ (i : Nat) (out : List Bs) (dn : Bool) (B : Option Addr) (b : Nat), s8 = .int .i64 i ∧ s7 = .bool dn ∧ s6 = .slice B out.length b ∧ i ≤ l.length ∧ l.length - i < k ∧ OwnS w' w0.heap.size (.slice B out.length b) out ∧ out.length ≤ i + 1 ∧ (dn = false → out.length ≤ i) ∧
      out ++ insX x dn (l.drop i) = AN ∧ (∀ y, y ∈ l.take i → y ≠ x) ∧ Below w0.heap.size w0 w')
    case atStart => exact ⟨0, [], false, none, 0, rfl, rfl, rfl, by omega, by omega, ⟨rfl, .inl ⟨rfl, rfl⟩⟩, by simp, fun _ => by simp, HAN.out, fun y hy => by simp at hy, Below.refl _ _⟩
    case round =>
      obtain ⟨i, out, dn, B, b, rfl, rfl, rfl, hi, hik, hown, hol, hod, hans, hnx, hbl⟩ := hrel
      obtain ⟨gk, rfl⟩ : ∃ k, gk = k + 1 := ⟨gk - 1, by omega⟩
      have HBL := Lib.hid hbl
      have HO := Lib.hid hown
      have HA := Lib.hid hans
      have HNX := Lib.hid hnx
      have HOD := Lib.hid hod
      clear hod
      have hi0' : (0 : Int) ≤ i := by omega
      have hsz := hbl.size
      have hq := (hbl.block K (blk_lt HQ0.out)).trans HQ0.out
      clear z0 z1 z2 z3 hlK
      obtain ⟨⟨z0, z1, z2, z3⟩, _⟩ := blk4' hq
      have hlK := blk_lt hq
      clear hq hown hans hnx
      by_cases hlt : i < l.length
      · have hltz : (i : Int) < l.length := by omega
        obtain ⟨ad, rfl⟩ := row_some HL.out (by omega)
        obtain ⟨ad', e0, x00⟩ := s_at HL.out i hlt
        injection e0 with e0
        subst e0
        obtain ⟨y, hy⟩ : ∃ y, l[i] = y := ⟨_, rfl⟩
        rw [hy] at x00
        have HY := Lib.hid hy
        unfold encStr at x00
        obtain ⟨yb, hyb⟩ : ∃ b, (⟨y.toArray⟩ : ByteArray) = b := ⟨_, rfl⟩
        rw [hyb] at x00
        have hyl : yb.data.toList = y := by rw [← hyb]
        have HYB := Lib.hid (And.intro hyb hyl)
        have HLT := Lib.hid (World.block_lt_of_cell? w0 _ x00)
        have X00 := Lib.hid x00
        clear hyb hyl hy x00 z0 z1 z2 z3 hlK hbl
        have x0 := (HBL.out.cell HLT.out).trans X00.out
        have hltx := World.block_lt_of_cell? wr _ x0
        have hq := (HBL.out.block K (blk_lt HQ0.out)).trans HQ0.out
        obtain ⟨⟨z0, z1, z2, z3⟩, _⟩ := blk4' hq
        have hlK := blk_lt hq
        clear hq
        obtain ⟨q, hq⟩ : ∃ q, (yb.toList == nm.toList) = q := ⟨_, rfl⟩
        have hqe : (y == x) = q := by rw [← HYB.out.2, ← HXN.out, ← Lib.toList_data, ← Lib.toList_data]; exact hq
        cases q
        · have hne : y ≠ x := beq_eq_false_iff_ne.1 hqe
          have HNX2 : Hid (∀ z, z ∈ l.take (i + 1) → z ≠ x) := Lib.hid (fun z hz => by
            rw [List.take_add_one, List.getElem?_eq_getElem hlt, HY.out] at hz
            rcases List.mem_append.1 hz with h | h
            · exact HNX.out z h
            · have : z = y := by simpa using h
              rw [this]; exact hne)
          clear hqe hne
          cases dn
          · have HOD2 := Lib.hid (HOD.out rfl)
            obtain ⟨lt, hlt2⟩ : ∃ q, Op.bytesLess nm.toList yb.toList = q := ⟨_, rfl⟩
            have hlx : decide (x < y) = lt := by rw [← hlt2, bytesLess_eq, Lib.toList_data, Lib.toList_data, HYB.out.2, HXN.out]
            cases lt
            · have HLS : Hid (¬ x < y) := Lib.hid (of_decide_eq_false hlx)
              clear hlx
              go_wp2_with fail
              go_quiet (fail)
              obtain ⟨w2, hw2⟩ : ∃ w', wr.drewN nq = w' := ⟨_, rfl⟩
              have hb2 : Below wr.heap.size wr w2 := hw2 ▸ below_drewN (Below.refl _ _) _
              rw [hw2]
              have HB2 := Lib.hid (HBL.out.trans (hb2.mono HBL.out.size))
              have HO2 := Lib.hid (own_below HO.out hb2)
              clear hw2 hb2 x0 hltx z0 z1 z2 z3 hlK
              have x0 := (HB2.out.cell HLT.out).trans X00.out
              have hltx := World.block_lt_of_cell? w2 _ x0
              have hq := (HB2.out.block K (blk_lt HQ0.out)).trans HQ0.out
              obtain ⟨⟨z0, z1, z2, z3⟩, _⟩ := blk4' hq
              have hlK := blk_lt hq
              clear hq
              go_wp2_with fail
              go_quiet (fail)
              obtain ⟨w3, hw3⟩ : ∃ w', w2.drewN nq = w' := ⟨_, rfl⟩
              have hb3 : Below w2.heap.size w2 w3 := hw3 ▸ below_drewN (Below.refl _ _) _
              rw [hw3]
              have HB3 := Lib.hid (HB2.out.trans (hb3.mono HB2.out.size))
              have HO3 := Lib.hid (own_below HO2.out hb3)
              clear hw3 hb3 x0 hltx z0 z1 z2 z3 hlK
              have x0 := (HB3.out.cell HLT.out).trans X00.out
              have hltx := World.block_lt_of_cell? w3 _ x0
              have hq := (HB3.out.block K (blk_lt HQ0.out)).trans HQ0.out
              obtain ⟨⟨z0, z1, z2, z3⟩, _⟩ := blk4' hq
              have hlK := blk_lt hq
              clear hq
              have hsz4 := HB3.out.size
              go_wp2_with (at_builtin; refine wpList_append_lies _ (by rfl) _ _ _ (by rfl) w0.heap.size 9 i0 _ 1 16 Tryz.underlying28 hi0 hz0 hz1 hz2 rfl (by omega) (.slice B out.length b) out.length (out.map encStr) (by rfl) (HO3.out.alloc _) ⟨w3.heap.size, 0, none⟩ 1 1 [.string yb] (by rfl) (by rfl) (World.news_of_block (cs := #[.string yb]) (t := 9) (fr := (0, 0)) (heap_alloc_new w3 _)) (by simp [Value.oneCell']) (by omega) (by unfold maxLen; omega) (by omega) (by simp; omega) (w3.heap.size + 1) (by simp) ?_; intro g4 cap4 v4 hown4 hgrow4 hat4 hlt4; refine Hid.out ?_)
              refine Lib.hid ?_
              have hS4 : Same [] w0 v4 := ((Same.of_below (M := []) HB3.out).alloc _).grown hgrow4 (fun k hk => .inr (own_block HO3.out k hk).1)
              have HV4 := Lib.hid hS4.below
              have HW4 := Lib.hid hown4
              clear hS4 hown4 hgrow4 hat4 hlt4 x0 hltx z0 z1 z2 z3 hlK
              have x0 := (HV4.out.cell HLT.out).trans X00.out
              have hltx := World.block_lt_of_cell? v4 _ x0
              have hq := (HV4.out.block K (blk_lt HQ0.out)).trans HQ0.out
              obtain ⟨⟨z0, z1, z2, z3⟩, _⟩ := blk4' hq
              have hlK := blk_lt hq
              clear hq
              have HO5 : Hid (OwnS v4 w0.heap.size (.slice (some ⟨g4, 0, none⟩) (out ++ [y]).length cap4) (out ++ [y])) := Lib.hid (by
                unfold OwnS
                rw [List.map_append, List.length_append, List.map_cons, List.map_nil]
                unfold encStr
                rw [HYB.out.1]
                exact HW4.out)
              have HN5 : Hid ((out ++ [y]) ++ insX x false (l.drop (i + 1)) = AN) := Lib.hid (by
                have h := HA.out
                rw [drop_cons l i hlt, HY.out, insX, if_neg (fun e => HLS.out e.2)] at h
                rw [List.append_assoc]
                exact h)
              go_wp2_with fail
              go_roundg gk
              case measure => omega
              case rel => exact ⟨i + 1, out ++ [y], false, some ⟨g4, 0, none⟩, cap4, by go_num, rfl, by simp, by omega, by omega, HO5.out, by simp; omega, fun _ => by have := HOD2.out; simp; omega, HN5.out, HNX2.out, HV4.out⟩
            · have HLS : Hid (x < y) := Lib.hid (of_decide_eq_true hlx)
              clear hlx
              go_wp2_with fail
              go_quiet (fail)
              obtain ⟨w2, hw2⟩ : ∃ w', wr.drewN nq = w' := ⟨_, rfl⟩
              have hb2 : Below wr.heap.size wr w2 := hw2 ▸ below_drewN (Below.refl _ _) _
              rw [hw2]
              have HB2 := Lib.hid (HBL.out.trans (hb2.mono HBL.out.size))
              have HO2 := Lib.hid (own_below HO.out hb2)
              clear hw2 hb2 x0 hltx z0 z1 z2 z3 hlK
              have x0 := (HB2.out.cell HLT.out).trans X00.out
              have hltx := World.block_lt_of_cell? w2 _ x0
              have hq := (HB2.out.block K (blk_lt HQ0.out)).trans HQ0.out
              obtain ⟨⟨z0, z1, z2, z3⟩, _⟩ := blk4' hq
              have hlK := blk_lt hq
              clear hq
              go_wp2_with fail
              go_quiet (fail)
              obtain ⟨w3, hw3⟩ : ∃ w', w2.drewN nq = w' := ⟨_, rfl⟩
              have hb3 : Below w2.heap.size w2 w3 := hw3 ▸ below_drewN (Below.refl _ _) _
              rw [hw3]
              have HB3 := Lib.hid (HB2.out.trans (hb3.mono HB2.out.size))
              have HO3 := Lib.hid (own_below HO2.out hb3)
              clear hw3 hb3 x0 hltx z0 z1 z2 z3 hlK
              have x0 := (HB3.out.cell HLT.out).trans X00.out
              have hltx := World.block_lt_of_cell? w3 _ x0
              have hq := (HB3.out.block K (blk_lt HQ0.out)).trans HQ0.out
              obtain ⟨⟨z0, z1, z2, z3⟩, _⟩ := blk4' hq
              have hlK := blk_lt hq
              clear hq
              have hsz4 := HB3.out.size
              go_wp2_with (at_builtin; refine wpList_append_lies _ (by rfl) _ _ _ (by rfl) w0.heap.size 9 i0 _ 1 16 Tryz.underlying28 hi0 hz0 hz1 hz2 rfl (by omega) (.slice B out.length b) out.length (out.map encStr) (by rfl) (HO3.out.alloc _) ⟨w3.heap.size, 0, none⟩ 1 1 [.string nm] (by rfl) (by rfl) (World.news_of_block (cs := #[.string nm]) (t := 9) (fr := (0, 0)) (heap_alloc_new w3 _)) (by simp [Value.oneCell']) (by omega) (by unfold maxLen; omega) (by omega) (by simp; omega) (w3.heap.size + 1) (by simp) ?_; intro g4 cap4 v4 hown4 hgrow4 hat4 hlt4; refine Hid.out ?_)
              refine Lib.hid ?_
              have hS4 : Same [] w0 v4 := ((Same.of_below (M := []) HB3.out).alloc _).grown hgrow4 (fun k hk => .inr (own_block HO3.out k hk).1)
              have HV4 := Lib.hid hS4.below
              have HW4 := Lib.hid hown4
              clear hS4 hown4 hgrow4 hat4 hlt4 x0 hltx z0 z1 z2 z3 hlK
              have x0 := (HV4.out.cell HLT.out).trans X00.out
              have hltx := World.block_lt_of_cell? v4 _ x0
              have hq := (HV4.out.block K (blk_lt HQ0.out)).trans HQ0.out
              obtain ⟨⟨z0, z1, z2, z3⟩, _⟩ := blk4' hq
              have hlK := blk_lt hq
              clear hq
              have hsz5 := HV4.out.size
              go_wp2_with (at_builtin; refine wpList_append_lies _ (by rfl) _ _ _ (by rfl) w0.heap.size 9 i0 _ 1 16 Tryz.underlying28 hi0 hz0 hz1 hz2 rfl (by omega) (.slice (some ⟨g4, 0, none⟩) (out.length + 1) cap4) (out.length + 1) (out.map encStr ++ [.string nm]) (by rfl) (HW4.out.alloc _) ⟨v4.heap.size, 0, none⟩ 1 1 [.string yb] (by rfl) (by rfl) (World.news_of_block (cs := #[.string yb]) (t := 9) (fr := (0, 0)) (heap_alloc_new v4 _)) (by simp [Value.oneCell']) (by omega) (by unfold maxLen; omega) (by omega) (by simp; omega) (v4.heap.size + 1) (by simp) ?_; intro g5 cap5 v5 hown5 hgrow5 hat5 hlt5; refine Hid.out ?_)
              refine Lib.hid ?_
              have hS5 : Same [] w0 v5 := ((Same.of_below (M := []) HV4.out).alloc _).grown hgrow5 (fun k hk => .inr (own_block HW4.out k hk).1)
              have HV5 := Lib.hid hS5.below
              have HW5 := Lib.hid hown5
              clear hS5 hown5 hgrow5 hat5 hlt5 x0 hltx z0 z1 z2 z3 hlK
              have x0 := (HV5.out.cell HLT.out).trans X00.out
              have hltx := World.block_lt_of_cell? v5 _ x0
              have hq := (HV5.out.block K (blk_lt HQ0.out)).trans HQ0.out
              obtain ⟨⟨z0, z1, z2, z3⟩, _⟩ := blk4' hq
              have hlK := blk_lt hq
              clear hq
              have HO5 : Hid (OwnS v5 w0.heap.size (.slice (some ⟨g5, 0, none⟩) (out ++ [x, y]).length cap5) (out ++ [x, y])) := Lib.hid (by
                unfold OwnS
                have hl2 : (out ++ [x, y]).length = out.length + 1 + 1 := by simp
                rw [hl2, List.map_append, List.map_cons, List.map_cons, List.map_nil, ← HXN.out, enc_name]
                unfold encStr
                rw [HYB.out.1]
                have h := HW5.out
                rw [List.append_assoc] at h
                exact h)
              have HN5 : Hid ((out ++ [x, y]) ++ insX x true (l.drop (i + 1)) = AN) := Lib.hid (by
                have h := HA.out
                rw [drop_cons l i hlt, HY.out, insX, if_pos ⟨rfl, HLS.out⟩] at h
                rw [List.append_assoc]
                exact h)
              go_wp2_with fail
              go_roundg gk
              case measure => omega
              case rel => exact ⟨i + 1, out ++ [x, y], true, some ⟨g5, 0, none⟩, cap5, by go_num, rfl, by simp, by omega, by omega, HO5.out, by have := HOD2.out; simp; omega, fun h => absurd h (by decide), HN5.out, HNX2.out, HV5.out⟩
          · have hdn : True := trivial
            clear hdn
            go_wp2_with fail
            go_quiet (fail)
            obtain ⟨w2, hw2⟩ : ∃ w', wr.drewN nq = w' := ⟨_, rfl⟩
            have hb2 : Below wr.heap.size wr w2 := hw2 ▸ below_drewN (Below.refl _ _) _
            rw [hw2]
            have HB2 := Lib.hid (HBL.out.trans (hb2.mono HBL.out.size))
            have HO2 := Lib.hid (own_below HO.out hb2)
            clear hw2 hb2 x0 hltx z0 z1 z2 z3 hlK
            have x0 := (HB2.out.cell HLT.out).trans X00.out
            have hltx := World.block_lt_of_cell? w2 _ x0
            have hq := (HB2.out.block K (blk_lt HQ0.out)).trans HQ0.out
            obtain ⟨⟨z0, z1, z2, z3⟩, _⟩ := blk4' hq
            have hlK := blk_lt hq
            clear hq
            go_wp2_with fail
            go_quiet (fail)
            obtain ⟨w3, hw3⟩ : ∃ w', w2.drewN nq = w' := ⟨_, rfl⟩
            have hb3 : Below w2.heap.size w2 w3 := hw3 ▸ below_drewN (Below.refl _ _) _
            rw [hw3]
            have HB3 := Lib.hid (HB2.out.trans (hb3.mono HB2.out.size))
            have HO3 := Lib.hid (own_below HO2.out hb3)
            clear hw3 hb3 x0 hltx z0 z1 z2 z3 hlK
            have x0 := (HB3.out.cell HLT.out).trans X00.out
            have hltx := World.block_lt_of_cell? w3 _ x0
            have hq := (HB3.out.block K (blk_lt HQ0.out)).trans HQ0.out
            obtain ⟨⟨z0, z1, z2, z3⟩, _⟩ := blk4' hq
            have hlK := blk_lt hq
            clear hq
            have hsz4 := HB3.out.size
            go_wp2_with (at_builtin; refine wpList_append_lies _ (by rfl) _ _ _ (by rfl) w0.heap.size 9 i0 _ 1 16 Tryz.underlying28 hi0 hz0 hz1 hz2 rfl (by omega) (.slice B out.length b) out.length (out.map encStr) (by rfl) (HO3.out.alloc _) ⟨w3.heap.size, 0, none⟩ 1 1 [.string yb] (by rfl) (by rfl) (World.news_of_block (cs := #[.string yb]) (t := 9) (fr := (0, 0)) (heap_alloc_new w3 _)) (by simp [Value.oneCell']) (by omega) (by unfold maxLen; omega) (by omega) (by simp; omega) (w3.heap.size + 1) (by simp) ?_; intro g4 cap4 v4 hown4 hgrow4 hat4 hlt4; refine Hid.out ?_)
            refine Lib.hid ?_
            have hS4 : Same [] w0 v4 := ((Same.of_below (M := []) HB3.out).alloc _).grown hgrow4 (fun k hk => .inr (own_block HO3.out k hk).1)
            have HV4 := Lib.hid hS4.below
            have HW4 := Lib.hid hown4
            clear hS4 hown4 hgrow4 hat4 hlt4 x0 hltx z0 z1 z2 z3 hlK
            have x0 := (HV4.out.cell HLT.out).trans X00.out
            have hltx := World.block_lt_of_cell? v4 _ x0
            have hq := (HV4.out.block K (blk_lt HQ0.out)).trans HQ0.out
            obtain ⟨⟨z0, z1, z2, z3⟩, _⟩ := blk4' hq
            have hlK := blk_lt hq
            clear hq
            have HO5 : Hid (OwnS v4 w0.heap.size (.slice (some ⟨g4, 0, none⟩) (out ++ [y]).length cap4) (out ++ [y])) := Lib.hid (by
              unfold OwnS
              rw [List.map_append, List.length_append, List.map_cons, List.map_nil]
              unfold encStr
              rw [HYB.out.1]
              exact HW4.out)
            have HN5 : Hid ((out ++ [y]) ++ insX x true (l.drop (i + 1)) = AN) := Lib.hid (by
              have h := HA.out
              rw [drop_cons l i hlt, HY.out, insX, if_neg (by simp)] at h
              rw [List.append_assoc]
              exact h)
            go_wp2_with fail
            go_roundg gk
            case measure => omega
            case rel => exact ⟨i + 1, out ++ [y], true, some ⟨g4, 0, none⟩, cap4, by go_num, rfl, by simp, by omega, by omega, HO5.out, by simp; omega, fun h => absurd h (by decide), HN5.out, HNX2.out, HV4.out⟩
        · have he : y = x := beq_iff_eq.1 hqe
          have HIN : Hid (insR x l = l) := Lib.hid (by
            unfold insR
            rw [if_pos (by rw [← he, ← HY.out]; exact List.getElem_mem hlt)])
          clear hqe he
          go_wp2_with fail
          go_quiet (fail)
          go_wp2_with fail
          go_ret
          first | rw [HIN.out] | rw [HXN.out, HIN.out]
          exact ⟨some ad, lc, rfl, hll, (HL.out.keep (Same.of_below (M := []) HBL.out)).keep ((Same.refl [] wr).drewN _), below_drewN (HB0.out.trans (HBL.out.mono HB0.out.size)) _⟩
      · obtain rfl : i = l.length := by omega
        have hnl : ¬ ((l.length : Int) < l.length) := by omega
        have HNI : Hid (x ∉ l) := Lib.hid (fun h => by
          have := HNX.out x (by rw [List.take_length]; exact h)
          exact this rfl)
        have hE := HA.out
        rw [List.drop_length] at hE
        have HIN : Hid (insR x l = AN) := Lib.hid (by unfold insR; rw [if_neg HNI.out, HAN.out])
        cases dn
        · have hod2 := HOD.out rfl
          have HE : Hid (out ++ [x] = AN) := Lib.hid (by simpa [insX] using hE)
          have hsz4 := HBL.out.size
          clear hE hbl
          go_wp2_with (at_builtin; refine wpList_append_lies _ (by rfl) _ _ _ (by rfl) w0.heap.size 9 i0 _ 1 16 Tryz.underlying28 hi0 hz0 hz1 hz2 rfl (by omega) (.slice B out.length b) out.length (out.map encStr) (by rfl) (HO.out.alloc _) ⟨wr.heap.size, 0, none⟩ 1 1 [.string nm] (by rfl) (by rfl) (World.news_of_block (cs := #[.string nm]) (t := 9) (fr := (0, 0)) (heap_alloc_new wr _)) (by simp [Value.oneCell']) (by omega) (by unfold maxLen; omega) (by omega) (by simp; omega) (wr.heap.size + 1) (by simp) ?_; intro g4 cap4 v4 hown4 hgrow4 hat4 hlt4; refine Hid.out ?_)
          refine Lib.hid ?_
          have hS4 : Same [] w0 v4 := ((Same.of_below (M := []) HBL.out).alloc _).grown hgrow4 (fun k hk => .inr (own_block HO.out k hk).1)
          have HV4 := Lib.hid hS4.below
          have HO5 : Hid (OwnS v4 w0.heap.size (.slice (some ⟨g4, 0, none⟩) (out ++ [x]).length cap4) (out ++ [x])) := Lib.hid (by
            unfold OwnS
            rw [List.map_append, List.length_append, List.map_cons, List.map_nil, ← HXN.out, enc_name]
            exact hown4)
          clear hS4 hown4 hgrow4 hat4 hlt4 z0 z1 z2 z3 hlK
          go_wp2_with fail
          go_ret
          (first | rw [HIN.out] | rw [HXN.out, HIN.out])
          rw [← HE.out]
          obtain ⟨h2, h3⟩ := own_sRow HO5.out
          exact ⟨some ⟨g4, 0, none⟩, cap4, by simp, h2, h3, HB0.out.trans (HV4.out.mono HB0.out.size)⟩
        · have HE : Hid (out = AN) := Lib.hid (by simpa [insX] using hE)
          clear hE hbl
          go_wp2_with fail
          go_ret
          (first | rw [HIN.out] | rw [HXN.out, HIN.out])
          rw [← HE.out]
          obtain ⟨h2, h3⟩ := own_sRow HO.out
          exact ⟨B, b, rfl, h2, h3, HB0.out.trans (HBL.out.mono HB0.out.size)⟩
end Go.Proofs.YtgaiheojlmebaaaGreatDoor
/-! Walks: the reference's Names; are two lists the same? -/
namespace Go.Proofs.YtgaiheojlmebaaaGreatDoor
open Go Go.RowKit Go.Lib Go.Sort

theorem xnames_any (N : Nat) : ∀ (e : Ex) (A : Option Addr) (c : Nat) (L : Option Addr) (lc : Nat) (l : List Bs) (w : World), SizeOf.sizeOf e < N → ExSh e → exK.Row [] w A e.kids → e.kids.length ≤ c → sK.Row [] w L l → l.length ≤ lc → l.length + (nmE e).length ≤ 1000 →
    Calls Tryz.prog 24 #[exV e A c, .slice L l.length lc] w (InPost (insE e l) w) := by
  induction N with
  | zero => intro e A c L lc l w h; omega
  | succ N ih =>
    intro e A c L lc l w hN hs hr hlc hl hll hB
    have hkid : ∀ ks : List Ex, (∀ k, k ∈ ks → SizeOf.sizeOf k < N ∧ ExSh k) → ∀ (j : Nat) (hj : j < ks.length) (A' : Option Addr) (c' : Nat) (L : Option Addr) (lc : Nat) (tt : List Bs) (W : World), exK.Row [] W A' ks[j].kids → ks[j].kids.length ≤ c' → sK.Row [] W L tt → tt.length ≤ lc → tt.length + (nmE ks[j]).length ≤ 1000 →
      Calls Tryz.prog 24 #[exV ks[j] A' c', .slice L tt.length lc] W (InPost (insE ks[j] tt) W) := fun ks hk j hj A' c' L lc tt W a b c d e => ih _ A' c' L lc tt W (hk _ (List.getElem_mem hj)).1 (hk _ (List.getElem_mem hj)).2 a b c d e
    cases hs with
    | @leaf op n nm ks h h2 =>
      subst h2
      by_cases h1 : op = 1
      · subst h1
        rw [insE, if_pos rfl, insEs]
        exact xnames_leaf n nm A c L lc l w hl hll (by omega)
      · rw [insE, if_neg h1]
        exact xnames_node op n nm [] A c L lc l w h1 hr hlc hl hll (hkid [] (fun k hk => by simp at hk)) (fun k hk => by simp at hk) (by rw [nmE, if_neg h1] at hB; exact hB)
    | @node op n nm ks h1 h2 h3 h4 =>
      rw [insE, if_neg (by omega)]
      refine xnames_node op n nm ks A c L lc l w (by omega) hr hlc hl hll (hkid ks (fun k hk => ⟨?_, h4 k hk⟩)) h4 (by rw [nmE, if_neg (by omega)] at hB; exact hB)
      have h7 : SizeOf.sizeOf k < SizeOf.sizeOf ks := List.sizeOf_lt_of_mem hk
      simp at hN
      omega

set_option maxHeartbeats 4000000 in
set_option maxRecDepth 100000 in
theorem xNames_any (e : Ex) (A : Option Addr) (c : Nat) (w : World) (hr : exK.Row [] w A e.kids) (hlc : e.kids.length ≤ c) (hn : ExN e) :
    Calls Tryz.prog 9 #[exV e A c] w (NamesPost (namesP e) w) := by
  have HM := Lib.hid (fun W h => xmay_any e A c W h hlc hn)
  obtain ⟨w1, hw1⟩ : ∃ w', w.alloc (.cells #[.int .i64 e.op, .int .i64 e.n, .string e.name, .slice A e.kids.length c] 24 (0, 0)) = w' := ⟨_, rfl⟩
  have hb1 : Below w.heap.size w w1 := hw1 ▸ (Below.refl _ _).alloc (Nat.le_refl _) _
  have hq1 : ExB w1 w.heap.size e A c := hw1 ▸ heap_alloc_new _ _
  obtain ⟨K, hK⟩ : ∃ K, w.heap.size = K := ⟨_, rfl⟩
  have Q1 : Hid (ExB w1 K e A c) := Lib.hid (by rw [← hK]; exact hq1)
  have HB1 := Lib.hid hb1
  have R1 := Lib.hid (hr.keep (Same.of_below (M := []) hb1))
  have HW1 := Lib.hid hw1
  cases hb : eMay e
  · have HX : Hid (namesP e = []) := Lib.hid (by unfold namesP; rw [hb]; rfl)
    rw [hb] at HM
    clear hr hb1 hq1 hw1 hb
    go_enter Tryz.func9, Tryz.ntmps9
    go_wp2_with fail
    clear hK
    rw [HW1.out]
    refine (HM.out w1 R1.out).mono ?_
    rintro r w2 ⟨rfl, hb2⟩
    have HB2 := Lib.hid (HB1.out.trans (hb2.mono HB1.out.size))
    clear hb2
    go_wp2_with fail
    go_ret
    rw [HX.out]
    exact ⟨none, 0, rfl, Nat.le_refl _, Kind.Row.nil _ _ _ _, HB2.out⟩
  · have hsh := sh_of_may hb
    have HX : Hid (namesP e = insE e []) := Lib.hid (by unfold namesP; rw [hb, names_eq hsh]; rfl)
    have h64 := nm_may hb
    have HSH := Lib.hid hsh
    rw [hb] at HM
    clear hr hb1 hq1 hw1 hb hsh
    go_enter Tryz.func9, Tryz.ntmps9
    go_wp2_with fail
    clear hK
    rw [HW1.out]
    refine (HM.out w1 R1.out).mono ?_
    rintro r w2 ⟨rfl, hb2⟩
    have HB2 := Lib.hid (HB1.out.trans (hb2.mono HB1.out.size))
    have R2 := Lib.hid (R1.out.keep (Same.of_below (M := []) hb2))
    have Q2 := Lib.hid (Q1.out.step hb2)
    obtain ⟨x0, x1, x2, x3⟩ := Q2.out.cells
    have hlK := blk_lt Q2.out
    clear hb2
    go_wp2_with fail
    refine (xnames_any (SizeOf.sizeOf e + 1) e A c none 0 [] w2 (by omega) HSH.out R2.out hlc (Kind.Row.nil _ _ _ _) (Nat.le_refl _) (by simp; omega)).mono ?_
    rintro r w3 ⟨V, d, rfl, hl3, hr3, hb3⟩
    have HR3 := Lib.hid hr3
    have HB3 := Lib.hid (HB2.out.trans (hb3.mono HB2.out.size))
    clear x0 x1 x2 x3 hlK hr3 hb3
    go_wp2_with fail
    go_ret
    rw [HX.out]
    exact ⟨V, d, rfl, hl3, HR3.out, HB3.out⟩

set_option maxHeartbeats 4000000 in
set_option maxRecDepth 100000 in
theorem texts_same (l : List Bs) (A B : Option Addr) (a b : Nat) (w : World) (hA : sK.Row [] w A l) (hB : sK.Row [] w B l) (ha : l.length ≤ a) (hb : l.length ≤ b) :
    Calls Tryz.prog 7 #[.slice A l.length a, .slice B l.length b] w fun r w' => r = .returned (.bool true) ∧ Below w.heap.size w w' := by
  have hm := hA.1
  have hmz : (l.length : Int) ≤ 9223372036854775807 := by omega
  have haz : (l.length : Int) ≤ a := by omega
  have hbz : (l.length : Int) ≤ b := by omega
  have HA := Lib.hid hA
  have HB := Lib.hid hB
  clear hA hB
  go_enter Tryz.func7, Tryz.ntmps7
  go_wp2_with fail
  go_loopg [5] (l.length + 1) (fun k s5 w' => ∃ j : Nat, s5 = .int .i64 j ∧ j ≤ l.length ∧ l.length - j < k ∧ Below w.heap.size w w')
  case atStart => exact ⟨0, rfl, by omega, by omega, Below.refl _ _⟩
  case round =>
    obtain ⟨j, rfl, hj, hjk, hbl⟩ := hrel
    obtain ⟨gk, rfl⟩ : ∃ k, gk = k + 1 := ⟨gk - 1, by omega⟩
    have hj0 : (0 : Int) ≤ j := by omega
    have HBL := Lib.hid hbl
    by_cases hlt : j < l.length
    · have hltz : (j : Int) < l.length := by omega
      obtain ⟨ad, rfl⟩ := row_some HA.out (by omega)
      obtain ⟨bd, rfl⟩ := row_some HB.out (by omega)
      obtain ⟨ad', e0, x0⟩ := s_at (HA.out.keep (Same.of_below (M := []) hbl)) j hlt
      obtain ⟨bd', e1, y0⟩ := s_at (HB.out.keep (Same.of_below (M := []) hbl)) j hlt
      injection e0 with e0
      injection e1 with e1
      subst e0 e1
      have hl1 := World.block_lt_of_cell? wr _ x0
      have hl2 := World.block_lt_of_cell? wr _ y0
      unfold encStr at x0 y0
      generalize (⟨l[j].toArray⟩ : ByteArray) = sb at x0 y0
      clear hbl
      go_wp2_with fail
      go_quiet (fail)
      go_wp2_with fail
      go_roundg gk
      case measure => omega
      case rel => exact ⟨j + 1, by go_num, by omega, by omega, below_drewN HBL.out _⟩
    · have hge : (l.length : Int) ≤ j := by omega
      clear hbl
      go_wp2_with fail
      go_ret
      exact ⟨rfl, HBL.out⟩
end Go.Proofs.YtgaiheojlmebaaaGreatDoor
