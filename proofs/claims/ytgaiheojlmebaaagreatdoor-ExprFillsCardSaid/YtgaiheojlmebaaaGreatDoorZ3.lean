/- A walk: expr.Names. -/
import Derived.Test.YtgaiheojlmebaaaGreatDoorZ2
namespace Go.Proofs.YtgaiheojlmebaaaGreatDoor
open Go Go.RowKit Go.Lib Go.Sort

def sK : Kind Bs := Kind.iso Kind.str (fun x => ⟨x.toArray⟩)
theorem sK_rep {M : List Nat} {w : World} {x : Bs} : sK.rep M w x [encStr x] := rfl
theorem s_at {M : List Nat} {w : World} {A : Option Addr} {ks : List Bs} (h : sK.Row M w A ks) (k : Nat) (hk : k < ks.length) : ∃ ad, A = some ad ∧ w.cell? (ad.add k) = some (encStr ks[k]) := by
  obtain ⟨ad, cs, e, _, hr, hc⟩ := h.at_ k hk
  have hr' : cs = [encStr ks[k]] := hr
  subst hr'
  have := hc 0 _ rfl
  rw [show k * sK.sz + 0 = k by show k * 1 + 0 = k; omega] at this
  exact ⟨ad, e, this⟩
/-- A row whose block's first cells hold the texts. -/
theorem s_row {w : World} {g : Nat} {cur : Array Value} {t : TypeId} {fr : Nat × Nat} {l : List Bs} (hb : w.heap[g]? = some (.cells cur t fr)) (hl : l.length ≤ 9223372036854775807) (h : cur.toList.take l.length = l.map encStr) : sK.Row [] w (some ⟨g, 0, none⟩) l :=
  ⟨hl, fun _ => ⟨⟨g, 0, none⟩, rfl, by simp, (Array.getElem?_eq_some_iff.1 hb).1, fun i hi => ⟨[encStr l[i]], rfl, fun j u hu => by
    obtain rfl : j = 0 := by
      rcases j with _ | j
      · rfl
      · simp at hu
    have hu' : encStr l[i] = u := by simpa using hu
    subst hu'
    have hadd : (⟨g, 0, none⟩ : Addr).add (i * sK.sz + 0) = ⟨g, i, none⟩ := by
      rw [show i * sK.sz + 0 = i by show i * 1 + 0 = i; omega]
      unfold Addr.add
      split <;> simp_all
    rw [hadd]
    have h1 : (cur.toList.take l.length)[i]? = (l.map encStr)[i]? := by rw [h]
    rw [List.getElem?_take_of_lt hi] at h1
    simp only [World.cell?, hb, Option.isSome_none, Bool.false_eq_true, if_false]
    rw [← Array.getElem?_toList, h1]
    simp [hi]⟩⟩⟩
/-- What Names hands back. -/
def NamesPost (l : List Bs) (w : World) (r : Ending) (w' : World) : Prop := ∃ A c, r = .returned (.slice A l.length c) ∧ l.length ≤ c ∧ sK.Row [] w' A l ∧ Below w.heap.size w w'
def namesP (e : Ex) : List Bs := if eMay e then sortC (nmE e) else []
theorem sortC_len (l : List Bs) : (sortC l).length ≤ l.length := by
  unfold sortC
  have := compact_length_le (l.mergeSort fun x y => decide (x ≤ y))
  rwa [List.length_mergeSort] at this
theorem sortC_nil : sortC [] = [] := List.eq_nil_of_length_eq_zero (by have := sortC_len []; simpa using this)
theorem nm_tok (N : Nat) : (∀ e : Ex, SizeOf.sizeOf e < N → ∀ most, 0 ≤ eTok e most → ((nmE e).length : Int) ≤ eTok e most) ∧
    (∀ ks : List Ex, SizeOf.sizeOf ks < N → ∀ op i n most, 0 ≤ n → 0 ≤ eToks op ks i n most → ((nmEs ks).length : Int) + n ≤ eToks op ks i n most) := by
  induction N with
  | zero => exact ⟨fun _ h => absurd h (by omega), fun _ h => absurd h (by omega)⟩
  | succ N ih =>
    refine ⟨fun e he most h => ?_, fun ks hk op i n most hn h => ?_⟩
    · obtain ⟨o, n, nm, ks⟩ := e
      rw [eTok] at h ⊢
      rw [nmE]
      by_cases h0 : o = 0 ∨ o = 1
      · rw [if_pos h0] at h ⊢
        by_cases h1 : 0 < ks.length ∨ o = 0 ∧ (n < 0 ∨ nm.size ≠ 0) ∨ o = 1 ∧ (n ≠ 0 ∨ nameB nm = false)
        · rw [if_pos h1] at h; omega
        · rw [if_neg h1]
          obtain rfl : ks = [] := List.eq_nil_of_length_eq_zero (by omega)
          split
          · simp
          · rw [nmEs]; simp
      · rw [if_neg h0] at h ⊢
        by_cases h1 : o < 0 ∨ 16 < o ∨ n ≠ 0 ∨ nm.size ≠ 0 ∨ ks.length ≠ eParts o ∨ most < 1
        · rw [if_pos h1] at h; omega
        · rw [if_neg h1] at h ⊢
          rw [if_neg (by omega)]
          have := ih.2 ks (by simp at he; omega) o 0 1 most (by decide) h
          omega
    · cases ks with
      | nil => rw [nmEs, eToks_nil]; simp
      | cons x xs =>
        rw [eToks_cons] at h ⊢
        rw [nmEs_cons, List.length_append]
        have hz : (0 : Int) ≤ (if eWrapped op x.op i = true then 2 else 0) := by split <;> omega
        generalize (if eWrapped op x.op i = true then (2 : Int) else 0) = z at h hz ⊢
        by_cases h1 : eTok x (most - n) < 0
        · rw [if_pos h1] at h; omega
        · rw [if_neg h1] at h ⊢
          by_cases h2 : most < n + eTok x (most - n) + z
          · rw [if_pos h2] at h; omega
          · rw [if_neg h2] at h ⊢
            have a := ih.1 x (by simp at hk; omega) (most - n) (by omega)
            have b := ih.2 xs (by simp at hk; omega) op (i + 1) (n + eTok x (most - n) + z) most (by omega) h
            omega
theorem nm_may {e : Ex} (h : eMay e = true) : (nmE e).length ≤ 64 := by
  unfold eMay at h
  rw [Bool.and_eq_true, decide_eq_true_eq, decide_eq_true_eq] at h
  have := (nm_tok (SizeOf.sizeOf e + 1)).1 e (by omega) 64 (by omega)
  omega

set_option maxHeartbeats 8000000 in
set_option maxRecDepth 100000 in
theorem enames_any (e : Ex) (A : Option Addr) (c : Nat) (w : World) (hr : exK.Row [] w A e.kids) (hlc : e.kids.length ≤ c) (hk : ExOk e) (hT : Tabs w) :
    Calls Tryz.prog 8 #[exV e A c] w (NamesPost (namesP e) w) := by
  have HM := Lib.hid (fun W h hT => may_any e A c W h hlc hk hT)
  obtain ⟨w1, hw1⟩ : ∃ w', w.alloc (.cells #[.int .i64 e.op, .int .i64 e.n, .string e.name, .slice A e.kids.length c] 24 (0, 0)) = w' := ⟨_, rfl⟩
  have hb1 : Below w.heap.size w w1 := hw1 ▸ (Below.refl _ _).alloc (Nat.le_refl _) _
  have hq1 : ExB w1 w.heap.size e A c := hw1 ▸ heap_alloc_new _ _
  obtain ⟨K, hK⟩ : ∃ K, w.heap.size = K := ⟨_, rfl⟩
  have Q1 : Hid (ExB w1 K e A c) := Lib.hid (by rw [← hK]; exact hq1)
  have HB1 := Lib.hid hb1
  have R1 := Lib.hid (hr.keep (Same.of_below (M := []) hb1))
  have T1 := Lib.hid (hT.below hb1)
  have HW1 := Lib.hid hw1
  cases hb : eMay e
  · have HX : Hid (namesP e = []) := Lib.hid (by unfold namesP; rw [hb]; rfl)
    rw [hb] at HM
    clear hr hT hb1 hq1 hw1 hb
    go_enter Tryz.func8, Tryz.ntmps8
    go_wp2_with fail
    clear hK
    rw [HW1.out]
    refine (HM.out w1 R1.out T1.out).mono ?_
    rintro r w2 ⟨rfl, hb2⟩
    have HB2 := Lib.hid (HB1.out.trans (hb2.mono HB1.out.size))
    clear hb2
    go_wp2_with fail
    go_ret
    rw [HX.out]
    exact ⟨none, 0, rfl, Nat.le_refl _, Kind.Row.nil _ _ _ _, HB2.out⟩
  · have HX : Hid (namesP e = sortC (nmE e)) := Lib.hid (by unfold namesP; rw [hb]; rfl)
    have h64 := nm_may hb
    rw [hb] at HM
    clear hr hT hb1 hq1 hw1 hb
    go_enter Tryz.func8, Tryz.ntmps8
    go_wp2_with fail
    clear hK
    rw [HW1.out]
    refine (HM.out w1 R1.out T1.out).mono ?_
    rintro r w2 ⟨rfl, hb2⟩
    have HB2 := Lib.hid (HB1.out.trans (hb2.mono HB1.out.size))
    have R2 := Lib.hid (R1.out.keep (Same.of_below (M := []) hb2))
    have Q2 := Lib.hid (Q1.out.step hb2)
    obtain ⟨x0, x1, x2, x3⟩ := Q2.out.cells
    have hlK := blk_lt Q2.out
    clear hb2
    go_wp2_with fail
    refine (ename_any w2 (SizeOf.sizeOf e + 1) e A c none 0 [] w2 (by omega) R2.out hlc (Below.refl _ _) ⟨rfl, .inl ⟨rfl, rfl⟩⟩ (by simp; omega)).mono ?_
    rintro r w3 ⟨V, d, rfl, ho3, hb3⟩
    rw [List.nil_append] at ho3
    rw [List.nil_append]
    have HB3 := Lib.hid (HB2.out.trans (hb3.mono HB2.out.size))
    have hsz3 := hb3.size
    clear x0 x1 x2 x3 hlK
    rcases ho3.2 with ⟨hnil, h0⟩ | ⟨g, cap, cur, hv, hbase, hg, h1, h2, h3, h4⟩
    · injection hnil with e1 e2 e3
      subst e1 e3
      have hl0 : nmE e = [] := List.eq_nil_of_length_eq_zero h0
      have HS := Lib.hid (fun W => Tryz.slices_Sort_string_none none 0 W)
      have HC := Lib.hid (fun W => Tryz.slices_Compact_string_empty none 0 W)
      rw [hl0]
      clear hb3 ho3 h0 e2
      go_wp2_with fail
      refine (HS.out w3).mono ?_
      rintro r w4 ⟨rfl, rfl⟩
      go_wp2_with fail
      refine (HC.out w4).mono ?_
      rintro r w5 ⟨rfl, rfl⟩
      go_wp2_with fail
      go_ret
      rw [HX.out, hl0, sortC_nil]
      exact ⟨none, 0, rfl, Nat.le_refl _, Kind.Row.nil _ _ _ _, HB3.out⟩
    · injection hv with e1 e2 e3
      subst e1 e3
      rw [Nat.mul_one] at h4
      have hH := holds_of_block hg h4
      have hgl := (Array.getElem?_eq_some_iff.1 hg).1
      have HS := Lib.hid (Tryz.slices_Sort_string g 0 d (nmE e) w3 hH hgl (by omega))
      obtain ⟨ts, hts⟩ : ∃ ts, (nmE e).mergeSort (fun x y => decide (x ≤ y)) = ts := ⟨_, rfl⟩
      have htl : ts.length = (nmE e).length := by rw [← hts, List.length_mergeSort]
      rw [hts] at HS
      obtain ⟨n, hn⟩ : ∃ n, (nmE e).length = n := ⟨_, rfl⟩
      have HCP : Hid (sortC (nmE e) = Lib.compact ts) := Lib.hid (by unfold sortC; rw [hts])
      rw [hn] at HS h1 h4 htl h64
      have HG := Lib.hid hg
      have HN := Lib.hid hn
      have H1 := Lib.hid h1
      have H2 := Lib.hid h2
      have H3 := Lib.hid h3
      rw [hn]
      clear hb3 ho3 e2 hH hts hg h4 h2 h3 hn
      go_wp2_with fail
      refine HS.out.mono ?_
      rintro r w4 ⟨rfl, m, os, hw4⟩
      have hg4 : w4.heap[g]? = some (.cells (putCells encStr 0 ts.toArray cur) 9 (0, 0)) := by rw [hw4]; exact heap_sorted _ HG.out
      have hgr4 : w3.grownBy w4 (some g) := by rw [hw4]; exact grownBy_sorted _
      have hcs : (putCells encStr 0 ts.toArray cur).size = d * 1 := by rw [show (putCells encStr 0 ts.toArray cur).size = cur.size by simp [putCells]]; exact H3.out
      have htk : (putCells encStr 0 ts.toArray cur).toList.take ts.length = ts.map encStr := take_putCells cur ts (by rw [H3.out, htl]; omega)
      generalize putCells encStr 0 ts.toArray cur = cur2 at hg4 hcs htk
      have hS4 : Same [] w w4 := (Same.of_below (M := []) HB3.out).grown hgr4 (fun k hk => by cases hk; exact .inr (Nat.le_trans HB2.out.size hbase))
      have hH4 := holds_of_block hg4 htk
      have hgl4 := (Array.getElem?_eq_some_iff.1 hg4).1
      have hcm := Tryz.slices_Compact_string g 0 d ts w4 hH4 (by omega) (by rw [htl]; exact h1)
      rw [htl] at hcm
      have HC := Lib.hid hcm
      have HG4 := Lib.hid hg4
      have HS4 := Lib.hid hS4
      have hcl := compact_length_le ts
      rw [htl] at hcl
      clear hw4 hg4 hgr4 hS4 hH4 hgl4 hcm hgl
      go_wp2_with fail
      refine HC.out.mono ?_
      rintro r w5 ⟨rfl, q, hw5⟩
      have hw5' : w5 = grow (putRow encStr (Sort.ahead w4 q) g 0 (Lib.compact ts ++ List.replicate (n - (Lib.compact ts).length) []).toArray) #[] := by rw [grow_empty]; exact hw5
      have hg5 : w5.heap[g]? = some (.cells (putCells encStr 0 (Lib.compact ts ++ List.replicate (n - (Lib.compact ts).length) []).toArray cur2) 9 (0, 0)) := by rw [hw5']; exact heap_sorted _ HG4.out
      have hgr5 : w4.grownBy w5 (some g) := by rw [hw5']; exact grownBy_sorted _
      have hS5 : Same [] w w5 := HS4.out.grown hgr5 (fun k hk => by cases hk; exact .inr (Nat.le_trans HB2.out.size hbase))
      have htk5 := take_putCells cur2 (Lib.compact ts ++ List.replicate (n - (Lib.compact ts).length) []) (by rw [hcs]; simp; omega)
      have htk6 : (putCells encStr 0 (Lib.compact ts ++ List.replicate (n - (Lib.compact ts).length) []).toArray cur2).toList.take (Lib.compact ts).length = (Lib.compact ts).map encStr := by
        have := congrArg (List.take (Lib.compact ts).length) htk5
        rw [List.take_take, Nat.min_eq_left (by simp), List.map_append, List.take_left' (by simp)] at this
        exact this
      have HR5 := Lib.hid (s_row hg5 (by omega) htk6)
      have HB5 := Lib.hid hS5.below
      clear hw5 hw5' hg5 hgr5 hS5 htk5 htk6
      go_wp2_with fail
      go_ret
      rw [HX.out, HCP.out]
      exact ⟨some ⟨g, 0, none⟩, d, rfl, by omega, HR5.out, HB5.out⟩
end Go.Proofs.YtgaiheojlmebaaaGreatDoor
