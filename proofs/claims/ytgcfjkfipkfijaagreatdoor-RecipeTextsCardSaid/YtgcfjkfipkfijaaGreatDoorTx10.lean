/- Part 10 of the proof of rtexts_card; no conditions. -/
import Derived.Test.YtgcfjkfipkfijaaGreatDoorTx05
import Derived.Test.YtgcfjkfipkfijaaGreatDoorTx01
import Derived.Test.YtgcfjkfipkfijaaGreatDoorTx09
import Derived.Test.YtgcfjkfipkfijaaGreatDoorTx07
namespace Go.Proofs.YtgcfjkfipkfijaaGreatDoor
open Go
def Ended (l : List Tok) : Prop := 0 < l.length ∧ (tokAt l ((l.length : Int) - 1)).kind = 0
def InL (l : List Tok) (s : St) : Prop := 0 ≤ s.at_ ∧ s.at_ < l.length
def Stays (l : List Tok) (P : St → Ex × St) : Prop := ∀ s, InL l s → InL l (P s).2
theorem pass_in {l : List Tok} {first : Int} {s : St} (hl : Ended l) (h : InL l s) (hk : (tokAt l s.at_).kind ≠ 0) : InL l (passP first s).2 := by
 have hp := passP_at first s
 have hne : s.at_ ≠ (l.length : Int) - 1 := fun e => hk (by rw [e]; exact hl.2)
 unfold InL at *
 cases hb : (passP first s).1 with
 | true => have := hp.1 hb; omega
 | false => have := hp.2 hb; omega
theorem isP_kind {l : List Tok} {a b : Int} {s : St} {x : Int} (h : isP l a b s = some x) : (tokAt l s.at_).kind ≠ 0 := by
 rw [(isF_kind _ _ _ _ _ h).1]; decide
theorem fail_in {l : List Tok} {e : Int} {s : St} (h : InL l s) : InL l (failP e s) := by unfold InL at *; rw [failP_at]; exact h
theorem rowF_stays {l : List Tok} {first a b : Int} {below : St → Ex × St} (hl : Ended l) (h : Stays l below) : ∀ (n : Nat) (e : Ex) (s : St), InL l s → InL l (rowF l first a b below n e s).2
 | 0, e, s, h1 => h1
 | n + 1, e, s, h1 => by
  rw [rowF]
  cases hi : isP l a b s with
  | none => exact h1
  | some op =>
   have hp := pass_in (first := first) hl h1 (isP_kind hi)
   simp only
   split
   ·exact hp
   ·exact rowF_stays hl h n _ _ (h _ hp)
theorem rowP_stays {l : List Tok} {first a b : Int} {below : St → Ex × St} (hl : Ended l) (h : Stays l below) : Stays l (rowP l first a b below) := fun s h1 => rowF_stays hl h 66 _ _ (h s h1)
theorem cmpP_stays {l : List Tok} {first : Int} {sum : St → Ex × St} (hl : Ended l) (h : Stays l sum) : Stays l (cmpP l first sum) := fun s h1 => by
 have h2 := h s h1
 unfold cmpP
 cases hi : isP l 9 14 (sum s).2 with
 | none => exact h2
 | some op =>
  have hp := pass_in (first := first) hl h2 (isP_kind hi)
  simp only
  split
  ·exact hp
  ·exact h _ hp
theorem orOf_stays {l : List Tok} {first : Int} {un : St → Ex × St} (hl : Ended l) (h : Stays l un) : Stays l (orOf l first un) :=
 rowP_stays hl (rowP_stays hl (cmpP_stays hl (rowP_stays hl (rowP_stays hl h))))
theorem unS_stays {l : List Tok} {first : Int} {un orr : St → Ex × St} (hl : Ended l) (h1 : Stays l un) (h2 : Stays l orr) : Stays l (unS l first un orr) := fun s hs => by
 unfold unS
 cases hi : isP l 2 3 s with
 | some op =>
  have hp := pass_in (first := first) hl hs (isP_kind hi)
  simp only
  split
  ·exact hp
  ·exact h1 _ hp
 | none =>
  simp only
  split
  ·exact fail_in hs
  ·rename_i hc
   have hk : (tokAt l s.at_).kind ≠ 0 := by
    intro e
    refine hc (.inr ⟨?_, by rw [e]; decide, by rw [e]; decide⟩)
    simp [isOpen, e]
   have hp := pass_in (first := first) hl hs hk
   split
   ·exact hp
   ·split
    ·exact hp
    ·split
     ·exact hp
     ·have ho := h2 _ hp
      split
      ·exact fail_in ho
      ·rename_i hd
       split
       ·rename_i hb
        refine pass_in hl ho ?_
        intro e
        refine hd ⟨hb, ?_⟩
        simp [isShut, e]
       ·exact ho
theorem unP_stays {l : List Tok} (first : Int) (hl : Ended l) : ∀ f, Stays l (unP l first f)
 | 0 => fun _ h => h
 | f + 1 => fun s h => by rw [unP_succ]; exact unS_stays hl (unP_stays first hl f) (orOf_stays hl (unP_stays first hl f)) s h
theorem takeP_in {l : List Tok} (a : Int) (hl : Ended l) (h : 0 ≤ a ∧ a < l.length) : 0 ≤ (takeP l a).2.2 ∧ (takeP l a).2.2 < l.length := by
 have h1 := orOf_stays (first := a) hl (unP_stays a hl 66) ⟨a, 0⟩ h
 unfold takeP
 simp only
 split
 ·exact h1
 ·exact h1
theorem tokAt_last (out : List Tok) (t : Tok) : tokAt (out ++ [t]) (((out ++ [t]).length : Int) - 1) = t := by
 unfold tokAt
 have e : ((out ++ [t]).length : Int) - 1 = (out.length : Int) := by simp
 rw [if_neg (by simp; omega), e, Int.toNat_natCast]
 simp
theorem skipN_pos_drop {l : List UInt8} (a : Int) : ∀ f, (skipF f l a).1.length ≤ l.length := by
 intro f
 induction f generalizing l a with
 | zero => exact Nat.le_refl _
 | succ f ih =>
  by_cases h : skipN l = 0
  ·rw [skipF_end h]; exact Nat.le_refl _
  ·rw [skipF_step h]
   exact Nat.le_trans (ih _) (by simp)
theorem cutG_ended : ∀ (f : Nat) (l : List UInt8) (a : Int) (out : List Tok), l.length < f → (cutG f l a out).2.1 = 0 → Ended (cutG f l a out).1
 | 0, _, _, _, h, _ => by omega
 | f + 1, l, a, out, h, he => by
  rw [cutG] at he ⊢
  by_cases hl : l = []
  ·rw [if_pos hl]
   exact ⟨by simp, by rw [tokAt_last]⟩
  ·rw [if_neg hl] at he ⊢
   simp only at he ⊢
   by_cases h2 : (if out.length = 2000 then (2 : Int) else (tokF l).2.2) = 0
   ·rw [if_neg (by simpa using h2)] at he ⊢
    have h3 : (tokF l).2.2 = 0 := by
     by_cases ho : out.length = 2000
     ·rw [if_pos ho] at h2; omega
     ·rw [if_neg ho] at h2; exact h2
    have h4 := tokF_ok hl h3
    refine cutG_ended f _ _ _ ?_ he
    refine Nat.lt_of_le_of_lt (skipN_pos_drop _ _) ?_
    rw [List.length_drop]
    omega
   ·rw [if_pos h2] at he
    exact absurd he h2
theorem cutB_ended (s : ByteArray) (h : (cutB s).2.1 = 0) : Ended (cutB s).1 := by
 unfold cutB at h ⊢
 split at h
 ·simp at h
 ·rename_i h1
  rw [if_neg h1]
  split at h
  ·simp at h
  ·rename_i h2
   rw [if_neg h2]
   refine cutG_ended _ _ _ _ ?_ h
   refine Nat.lt_of_le_of_lt (skipN_pos_drop _ _) ?_
   have := size_data s
   omega
end Go.Proofs.YtgcfjkfipkfijaaGreatDoor
namespace Go.Proofs.YtgcfjkfipkfijaaGreatDoor
open Go Go.RowKit Go.Lib
theorem info_nd : (Tryz.prog.info? 43).map (fun i => (i.zero, i.size, i.bytes)) = some (some (.agg #[.int .i64 0, .slice none 0 0, .slice none 0 0, .string ⟨#[]⟩, .slice none 0 0, .int .i64 0, .int .i64 0, .string ⟨#[]⟩, .slice none 0 0]), 9, 152) := by kernel_rfl
theorem numPs_nil (b : Int) : numPs b [] = ([], []) := by rw [numPs]
theorem numPs_cons (b : Int) (p : Pc) (ps : List Pc) : numPs b (p :: ps) = (numP b p ++ (numPs (b + (numP b p).length) ps).1, b :: (numPs (b + (numP b p).length) ps).2) := by rw [numPs]
theorem numPs_snoc : ∀ (ps : List Pc) (b : Int) (p : Pc), numPs b (ps ++ [p]) = ((numPs b ps).1 ++ numP (b + (numPs b ps).1.length) p, (numPs b ps).2 ++ [b + ((numPs b ps).1.length : Int)])
 | [], b, p => by
  have e : b + ((0 : Nat) : Int) = b := by omega
  simp only [List.nil_append, numPs_cons, numPs_nil, List.append_nil, List.length_nil, e]
 | q :: qs, b, p => by
  have e : ∀ n m : Nat, b + ((n + m : Nat) : Int) = b + n + m := fun n m => by omega
  rw [List.cons_append, numPs_cons, numPs_snoc qs, numPs_cons]
  simp only [List.append_assoc, List.length_append, e, List.cons_append]
def NumPost (b0 : Nat) (P : Nat → Prop) (B : Option Addr) (n b : Nat) (qs : List NQ) (p : Pc) (w : World) (r : Ending) (w' : World) : Prop :=
 ∃ B' b' qs', r = .returned (.tuple #[.slice B' qs'.length b', .int .i64 n]) ∧ NodesB b0 P w' B' qs'.length b' qs' ∧ qs'.map (·.nd) = qs.map (·.nd) ++ numP n p ∧ Same (blks (.slice B n b) qs) w w' ∧ ∀ k, k ∈ blks (.slice B' qs'.length b') qs' → k ∈ blks (.slice B n b) qs ∨ w.heap.size ≤ k
theorem parts_row (k : Int) (uA : Option Addr) (un uc : Nat) (kA : Option Addr) (kn kc : Nat) (w : World) :
  Calls Tryz.prog 190 #[.agg #[.int .i64 k, .slice uA un uc, .slice kA kn kc]] w fun r w' => r = .returned (.slice kA kn kc) ∧ Below w.heap.size w w' := by
 go_enter Tryz.func190, Tryz.ntmps190
 go_wp2_with fail
 go_ret
 exact ⟨rfl, (Below.refl _ _).alloc (Nat.le_refl _) _⟩
theorem parts_step (nm : ByteArray) (gA : Option Addr) (gn gc : Nat) (w : World) :
  Calls Tryz.prog 192 #[.agg #[.string nm, .slice gA gn gc]] w fun r w' => r = .returned (.slice none 0 0) ∧ Below w.heap.size w w' := by
 go_enter Tryz.func192, Tryz.ntmps192
 go_wp2_with fail
 go_ret
 exact ⟨rfl, (Below.refl _ _).alloc (Nat.le_refl _) _⟩
theorem parts_choice (e : Ex) (eA : Option Addr) (ec : Nat) (aA : Option Addr) (an ac : Nat) (bA : Option Addr) (bn bc : Nat) (w : World) :
  Calls Tryz.prog 191 #[.agg #[.int .i64 e.op, .int .i64 e.n, .string e.name, .slice eA e.kids.length ec, .int .i64 0, .slice none 0 0, .slice aA an ac, .int .i64 0, .slice none 0 0, .slice bA bn bc]] w
   fun r w' => ∃ C, r = .returned (.slice (some ⟨C, 0, none⟩) 2 2) ∧ w.heap.size ≤ C ∧ w'.heap[C]? = some (.cells #[rowV 0 none 0 0 aA an ac, rowV 0 none 0 0 bA bn bc] 91 (0, 0)) ∧ Below w.heap.size w w' := by
 go_enter Tryz.func191, Tryz.ntmps191
 go_wp2_with fail
 go_ret
 refine ⟨w.heap.size + 1, rfl, by omega, ?_, ((Below.refl _ _).alloc (Nat.le_refl _) _).alloc (by simp) _⟩
 have h := heap_alloc_new (w.alloc (.cells #[.int .i64 e.op, .int .i64 e.n, .string e.name, .slice eA e.kids.length ec, .int .i64 0, .slice none 0 0, .slice aA an ac, .int .i64 0, .slice none 0 0, .slice bA bn bc] 95)) (.cells #[rowV 0 none 0 0 aA an ac, rowV 0 none 0 0 bA bn bc] 91)
 simpa using h
theorem assert_row (a b c : Value) (w : World) : (Instr.typeAssert (.iface 58 (.agg #[a, b, c])) 91 58 true).run Tryz.prog w = .ok (.tuple #[.agg #[a, b, c], .bool true]) w := by kernel_rfl
abbrev zRow : Value := .agg #[.int .i64 0, .slice none 0 0, .slice none 0 0]
abbrev zCho : Value := .agg #[.int .i64 0, .int .i64 0, .string ⟨#[]⟩, .slice none 0 0, .int .i64 0, .slice none 0 0, .slice none 0 0, .int .i64 0, .slice none 0 0, .slice none 0 0]
theorem assert_cho_row (v : Value) (w : World) : (Instr.typeAssert (.iface 95 v) 91 58 true).run Tryz.prog w = .ok (.tuple #[zRow, .bool false]) w := by kernel_rfl
theorem assert_step_row (v : Value) (w : World) : (Instr.typeAssert (.iface 97 v) 91 58 true).run Tryz.prog w = .ok (.tuple #[zRow, .bool false]) w := by kernel_rfl
theorem assert_cho (a b c d e f g h i j : Value) (w : World) : (Instr.typeAssert (.iface 95 (.agg #[a, b, c, d, e, f, g, h, i, j])) 91 95 true).run Tryz.prog w = .ok (.tuple #[.agg #[a, b, c, d, e, f, g, h, i, j], .bool true]) w := by kernel_rfl
theorem assert_step_cho (v : Value) (w : World) : (Instr.typeAssert (.iface 97 v) 91 95 true).run Tryz.prog w = .ok (.tuple #[zCho, .bool false]) w := by kernel_rfl
theorem assert_step (a b : Value) (w : World) : (Instr.typeAssert (.iface 97 (.agg #[a, b])) 91 97 false).run Tryz.prog w = .ok (.agg #[a, b]) w := by kernel_rfl
theorem wpList_node {ops : Array Oper} {rest : List Oper} {o : Oper} {a : Act} {Q : Exit → Act → World → Prop} {b0 : Nat} {P : Nat → Prop} {w : World} {B : Option Addr} {n b : Nat} {qs : List NQ} (hgd : o.guard = none) (s x : Operand)
  (ho : o.op = .call { callee := .builtin .append, args := #[s, x], argTypes := #[24, 24] }) (hs : a.eval s = .slice B n b) (h : NodesB b0 P w B n b qs) (q0 : NQ) (h0 : q0.nd.kids = []) (hk0 : q0.kV = .slice none 0 0) (hr : Rest (fun k => P k ∨ k ∈ blks (.slice B n b) qs) w q0)
  (cs : Array Value) (hcs : cs.toList = q0.enc) (ty : TypeId) (hx : a.eval x = .slice (some ⟨w.heap.size, 0, none⟩) 1 1) (hn : n ≤ 1000) (hb0 : b0 ≤ w.heap.size)
  (k : ∀ g cap w', NodesB b0 P w' (some ⟨g, 0, none⟩) (n + 1) cap (qs ++ [q0]) → Same (blks (.slice B n b) qs) w w' → (∀ k, k ∈ blks (.slice (some ⟨g, 0, none⟩) (n + 1) cap) (qs ++ [q0]) → k ∈ blks (.slice B n b) qs ∨ w.heap.size ≤ k) →
    wpList Tryz.prog ops Q rest (a.put o.dst (.slice (some ⟨g, 0, none⟩) (n + 1) cap)) w') : wpList Tryz.prog ops Q (o :: rest) a (w.alloc (.cells cs ty)) := by
 obtain ⟨i0, hi0, hz0, hz1, hz2⟩ := info_parts info_nd
 refine wpList_append_lies _ hgd s x _ ho b0 43 i0 _ 9 152 Tryz.underlying24 hi0 hz0 hz1 hz2 rfl (by omega) (.slice B n b) n (qs.flatMap NQ.enc) hs (h.own.alloc _) ⟨w.heap.size, 0, none⟩ 1 1 q0.enc hx rfl ?_ (by simp [NQ.enc, NQ.kV, Value.oneCell']) (by decide) (by unfold maxLen; omega) (by omega) (by simp; omega) (w.heap.size + 1) (by simp) ?_
 ·intro j u hu
  have := blk_cell (heap_alloc_new w (.cells cs ty)) j
  have e : (⟨w.heap.size, 0, none⟩ : Addr).add j = ⟨w.heap.size, j, none⟩ := by unfold Addr.add; split <;> simp_all
  rw [e, this]
  rw [← hcs] at hu
  simpa using hu
 ·intro g cap w6 hown hg hat hlt
  obtain ⟨h1, h2, h3⟩ := h.push h0 hk0 hr hg hown hat
  exact k g cap w6 h1 (h2.mono (fun x hx => mem_blks.2 (.inl (by simpa using hx)))) h3
theorem enters_row (args : Array Value) (W : World) : (callFunc 190 args).run Tryz.prog W = .ok (.enter 190 args) W := enters_of Tryz.func190 (by kernel_rfl) rfl args W
theorem enters_cho (args : Array Value) (W : World) : (callFunc 191 args).run Tryz.prog W = .ok (.enter 191 args) W := enters_of Tryz.func191 (by kernel_rfl) rfl args W
theorem enters_step (args : Array Value) (W : World) : (callFunc 192 args).run Tryz.prog W = .ok (.enter 192 args) W := enters_of Tryz.func192 (by kernel_rfl) rfl args W
theorem parts_of {Z0 : Nat → Prop} {w : World} {p : Pc} {vt : TypeId} {vu : Value} (h : Av pcK Z0 w p [.iface vt vu]) : ∃ F : FuncId, (∀ W, (method 304 vt vu "malthouse/recipe.parts").run Tryz.prog W = .ok (F, vu) W) ∧ (∀ args W, (callFunc F args).run Tryz.prog W = .ok (.enter F args) W) ∧
  ∀ (M : List Nat) W, Same M w W → (∀ k, k ∈ M → Z0 k) → Calls Tryz.prog F #[vu] W fun r w' => ∃ pA pc Z, r = .returned (.slice pA (partsP p).length pc) ∧ RowF pcK Z w' pA pc (partsP p) ∧ Below W.heap.size W w' ∧ (∀ k, Z0 k → k < W.heap.size → Z k) ∧ ∀ k, w.heap.size ≤ k → k < W.heap.size ∨ w'.heap.size ≤ k → Z k := by
 cases p with
 | row k us kids =>
  obtain ⟨uA, uc, kA, kc, hv, _, _, hkc, _⟩ := pcK_iff.1 (h [] (by simp))
  obtain ⟨rfl, rfl⟩ : vt = 58 ∧ vu = .agg #[.int .i64 k, .slice uA us.length uc, .slice kA kids.length kc] := by simpa using hv
  have hR : RowF pcK Z0 w kA kc kids := ⟨hkc, fun M hM => by
   obtain ⟨uA', uc', kA', kc', hv', _, _, _, hr⟩ := pcK_iff.1 (h M hM)
   have e : kA = kA' := by simp at hv'; exact hv'.2.1
   rw [e]; exact hr⟩
  refine ⟨190, fun W => by kernel_rfl, fun args W => enters_row args W, fun M W hW hM => (parts_row k uA us.length uc kA kids.length kc W).mono ?_⟩
  rintro r w' ⟨rfl, hb⟩
  exact ⟨kA, kc, fun k => Z0 k ∨ w.heap.size ≤ k, rfl, ((hR.more (fun k hk => hk)).keep hW (fun k hk => .inl (hM k hk))).below hb, hb, fun k hk _ => .inl hk, fun k hk _ => .inr hk⟩
 | choice e a b =>
  obtain ⟨eA, ec, aA, ac, bA, bc, hv, _, _, hac, _, hbc, _⟩ := pcK_iff.1 (h [] (by simp))
  obtain ⟨rfl, rfl⟩ : vt = 95 ∧ vu = .agg #[.int .i64 e.op, .int .i64 e.n, .string e.name, .slice eA e.kids.length ec, .int .i64 0, .slice none 0 0, .slice aA a.length ac, .int .i64 0, .slice none 0 0, .slice bA b.length bc] := by simpa using hv
  have hA : RowF pcK Z0 w aA ac a ∧ RowF pcK Z0 w bA bc b := by
   refine ⟨⟨hac, fun M hM => ?_⟩, ⟨hbc, fun M hM => ?_⟩⟩
   all_goals
    obtain ⟨eA', ec', aA', ac', bA', bc', hv', _, _, _, h1, _, h2⟩ := pcK_iff.1 (h M hM)
    simp at hv'
   ·rw [hv'.2.1.1]; exact h1
   ·rw [hv'.2.2.1]; exact h2
  refine ⟨191, fun W => by kernel_rfl, fun args W => enters_cho args W, fun M W hW hM => (parts_choice e eA ec aA a.length ac bA b.length bc W).mono ?_⟩
  rintro r w' ⟨C, rfl, hC, hk, hb⟩
  have hZ : ∀ k, ((Z0 k ∧ k < W.heap.size) ∨ (w.heap.size ≤ k ∧ (k < W.heap.size ∨ w'.heap.size ≤ k))) → k ≠ C := fun k hk' e => by have := blk_lt hk; omega
  have hp : ∀ {A : Option Addr} {c : Nat} {xs : List Pc}, RowF pcK Z0 w A c xs → Av pcK (fun k => (Z0 k ∧ k < W.heap.size) ∨ (w.heap.size ≤ k ∧ (k < W.heap.size ∨ w'.heap.size ≤ k))) w' (.row 0 [] xs) [rowV 0 none 0 0 A xs.length c] := fun hx =>
   Av.row (RowF.nil _ _ _ _ _) ((((hx.more (Q := fun k => Z0 k ∨ w.heap.size ≤ k) (fun k hk => hk)).keep hW (fun k hk => .inl (hM k hk))).more (fun k hk => .inl (hk.elim (fun h => .inl h.1) (fun h => .inr h.1)))).below hb)
  refine ⟨some ⟨C, 0, none⟩, 2, fun k => (Z0 k ∧ k < W.heap.size) ∨ (w.heap.size ≤ k ∧ (k < W.heap.size ∨ w'.heap.size ≤ k)), rfl, ⟨Nat.le_refl _, fun M hM => ⟨by show 2 ≤ _; decide, fun _ => ⟨⟨C, 0, none⟩, rfl, fun hc => hZ C (hM C hc) rfl, blk_lt hk, fun i hi => ?_⟩⟩⟩, hb, fun k h1 h2 => .inl ⟨h1, h2⟩, fun k h1 h2 => .inr ⟨h1, h2⟩⟩
  match i, hi with
  | 0, _ => exact ⟨_, hp hA.1 M hM, fun j u hu => by
    match j, hu with
    | 0, hu => exact (blk_cell hk 0).trans hu⟩
  | 1, _ => exact ⟨_, hp hA.2 M hM, fun j u hu => by
    match j, hu with
    | 0, hu => exact (blk_cell hk 1).trans hu⟩
 | step nm al =>
  obtain ⟨gA, gc, hv, _, _⟩ := pcK_iff.1 (h [] (by simp))
  obtain ⟨rfl, rfl⟩ : vt = 97 ∧ vu = .agg #[.string nm, .slice gA al.length gc] := by simpa using hv
  refine ⟨192, fun W => by kernel_rfl, fun args W => enters_step args W, fun M W _ _ => (parts_step nm gA al.length gc W).mono ?_⟩
  rintro r w' ⟨rfl, hb⟩
  exact ⟨none, 0, fun _ => True, rfl, RowF.nil _ _ _ _ _, hb, fun _ _ _ => trivial, fun _ _ _ => trivial⟩
end Go.Proofs.YtgcfjkfipkfijaaGreatDoor
namespace Go.Proofs.YtgcfjkfipkfijaaGreatDoor
open Go Go.RowKit Go.Lib
theorem blk9 {w : World} {k : Nat} {v0 v1 v2 v3 v4 v5 v6 v7 v8 : Value} {t : TypeId} (h : w.heap[k]? = some (.cells #[v0, v1, v2, v3, v4, v5, v6, v7, v8] t (0, 0))) :
  w.cell? ⟨k, 0, none⟩ = some v0 ∧ w.cell? ⟨k, 1, none⟩ = some v1 ∧ w.cell? ⟨k, 2, none⟩ = some v2 ∧ w.cell? ⟨k, 3, none⟩ = some v3 ∧ w.cell? ⟨k, 4, none⟩ = some v4 ∧ w.cell? ⟨k, 5, none⟩ = some v5 ∧ w.cell? ⟨k, 6, none⟩ = some v6 ∧ w.cell? ⟨k, 7, none⟩ = some v7 ∧ w.cell? ⟨k, 8, none⟩ = some v8 :=
 ⟨blk_cell h 0, blk_cell h 1, blk_cell h 2, blk_cell h 3, blk_cell h 4, blk_cell h 5, blk_cell h 6, blk_cell h 7, blk_cell h 8⟩
def HeadB (Z0 : Nat → Prop) (p : Pc) (w w' : World) (K : Nat) (q0 : NQ) : Prop :=
 w'.heap[K]? = some (.cells q0.enc.toArray 43 (0, 0)) ∧ q0.nd = headP p ∧ q0.kV = .slice none 0 0 ∧ Rest Z0 w' q0 ∧ Below w.heap.size w w'
theorem new2 (w : World) (a b : Obj) : ((w.alloc a).alloc b).heap[w.heap.size]? = some a ∧ Below w.heap.size w ((w.alloc a).alloc b) :=
 ⟨(((Below.refl (w.alloc a).heap.size (w.alloc a)).alloc (Nat.le_refl _) b).block w.heap.size (by simp)).trans (heap_alloc_new w a), ((Below.refl _ _).alloc (Nat.le_refl _) _).alloc (by simp) _⟩
theorem RowF.at_ {α : Type} {d : Kind α} {P : Nat → Prop} {w : World} {B : Option Addr} {b : Nat} {xs : List α} (h : RowF d P w B b xs) (i : Nat) (hi : i < xs.length) : ∃ ad cs, B = some ad ∧ Av d P w xs[i] cs ∧ ∀ j u, cs[j]? = some u → w.cell? (ad.add (i * d.sz + j)) = some u := by
 obtain ⟨ad, cs, e, _, hr, hc⟩ := (h.2 [] (by simp)).at_ i hi
 refine ⟨ad, cs, e, fun M hM => ?_, hc⟩
 obtain ⟨ad', cs', e', _, hr', hc'⟩ := (h.2 M hM).at_ i hi
 obtain rfl : ad = ad' := by rw [e] at e'; exact Option.some.inj e'
 have hl := d.len hr
 have hl' := d.len hr'
 have : cs' = cs := by
  apply List.ext_getElem?
  intro j
  by_cases hj : j < d.sz
  ·have h1 := hc j _ (List.getElem?_eq_getElem (by omega))
   have h2 := hc' j _ (List.getElem?_eq_getElem (by omega))
   rw [h1] at h2
   rw [List.getElem?_eq_getElem (by omega), List.getElem?_eq_getElem (by omega)]
   exact h2.symm
  ·rw [List.getElem?_eq_none (by omega), List.getElem?_eq_none (by omega)]
 rw [← this]
 exact hr'
theorem info_int' : (Tryz.prog.info? 3).map (fun i => (i.zero, i.size, i.bytes)) = some (some (.int .i64 0), 1, 8) := by kernel_rfl
theorem numPs_take (b : Int) (ps : List Pc) (i : Nat) : (numPs b (ps.take i)).1.length ≤ (numPs b ps).1.length := by
 induction ps generalizing b i with
 | nil => simp
 | cons p ps ih =>
  cases i with
  | zero => simp [numPs_nil]
  | succ i =>
   rw [List.take_succ_cons, numPs_cons, numPs_cons]
   simp only [List.length_append]
   have := ih (b + (numP b p).length) i
   omega
theorem numPs_le : ∀ (ps : List Pc) (b : Int), (numPs b ps).2.length ≤ (numPs b ps).1.length
 | [], b => by rw [numPs_nil]; exact Nat.le_refl _
 | p :: ps, b => by
  rw [numPs_cons]
  have h := numPs_le ps (b + (numP b p).length)
  have h1 : 1 ≤ (numP b p).length := by rw [numP_eq]; simp
  simp only [List.length_cons, List.length_append]
  omega
theorem parts_lt {p q : Pc} (h : q ∈ partsP p) : SizeOf.sizeOf q < SizeOf.sizeOf p := by
 cases p with
 | row k us kids =>
  have := List.sizeOf_lt_of_mem (show q ∈ kids from h)
  simp
  omega
 | choice e a b =>
  obtain ⟨o, n, nm, ks⟩ := e
  have hl : ∀ l : List Pc, 1 ≤ SizeOf.sizeOf l := fun l => by cases l <;> simp <;> omega
  have hk : 1 ≤ SizeOf.sizeOf ks := by cases ks <;> simp <;> omega
  have ha := hl a
  have hb := hl b
  simp only [partsP, List.mem_cons, List.not_mem_nil, or_false] at h
  rcases h with rfl | rfl
  all_goals
   simp
   have h0 : SizeOf.sizeOf (0 : Int) = 1 := rfl
   have e0 : SizeOf.sizeOf ([] : List ByteArray) = 1 := rfl
   omega
 | step nm al => simp [partsP] at h
set_option maxHeartbeats 8000000 in
set_option maxRecDepth 100000 in
theorem numbered_any (b0 : Nat) (P : Nat → Prop) (hP : ∀ k, P k → k < b0) (N : Nat) : ∀ (p : Pc) (vt : TypeId) (vu : Value) (w : World) (B : Option Addr) (n b : Nat) (qs : List NQ), SizeOf.sizeOf p < N → NodesB b0 P w B n b qs → Av pcK (fun k => P k ∨ k ∈ blks (.slice B n b) qs) w p [.iface vt vu] → b0 ≤ w.heap.size → n + (numP n p).length ≤ 1000 →
  Calls Tryz.prog 31 #[.slice B n b, .iface vt vu] w (NumPost b0 P B n b qs p w) := by
 induction N with
 | zero => intro p vt vu w B n b qs h; omega
 | succ N ih =>
  intro p vt vu w B n b qs hN hB hv hb0 hcn
  obtain ⟨F, hme, heg, hpt⟩ := parts_of hv
  have H := Lib.hid (⟨hB, hv⟩ : _ ∧ _)
  have HPT := Lib.hid hpt
  clear hB hv hpt
  go_enter Tryz.func31, Tryz.ntmps31
  go_upto_block 0 with fail
  go_cut [6] (fun s6 wx => ∃ K q0, s6 = .pointer (some ⟨K, 0, none⟩) ∧ HeadB (fun k => P k ∨ k ∈ blks (.slice B n b) qs) p w wx K q0)
  case first =>
   clear hme heg HPT ih
   obtain ⟨hB, hv⟩ := H.out
   clear H
   cases p with
   | row k us kids =>
    obtain ⟨uA, uc, kA, kc, he, huc, _, _, _⟩ := pcK_iff.1 (hv [] (by simp))
    obtain ⟨rfl, rfl⟩ : vt = 58 ∧ vu = .agg #[.int .i64 k, .slice uA us.length uc, .slice kA kids.length kc] := by simpa using he
    have ha := fun W => assert_row (.int .i64 k) (.slice uA us.length uc) (.slice kA kids.length kc) W
    have hU : RowF Kind.str (fun k => P k ∨ k ∈ blks (.slice B n b) qs) w uA uc us := ⟨huc, fun M hM => by
     obtain ⟨uA', uc', kA', kc', hv', _, hr, _⟩ := pcK_iff.1 (hv M hM)
     have e : uA = uA' := by simp at hv'; exact hv'.1.1
     rw [e]; exact hr⟩
    have HU := Lib.hid hU
    clear hU hv hB he
    go_wp2_with fail
    go_meet
    exact ⟨w.heap.size, ⟨headP (.row k us kids), none, 0, uA, uc, none, 0, none, 0⟩, rfl, (new2 w _ _).1, rfl, rfl, ⟨HU.out.below (new2 w _ _).2, RowF.nil _ _ _ _ _, ExF.leaf rfl⟩, (new2 w _ _).2⟩
   | choice e a bb =>
    obtain ⟨eA, ec, aA, ac, bA, bc, he, hec, _, _⟩ := pcK_iff.1 (hv [] (by simp))
    obtain ⟨rfl, rfl⟩ : vt = 95 ∧ vu = .agg #[.int .i64 e.op, .int .i64 e.n, .string e.name, .slice eA e.kids.length ec, .int .i64 0, .slice none 0 0, .slice aA a.length ac, .int .i64 0, .slice none 0 0, .slice bA bb.length bc] := by simpa using he
    have ha := fun W => assert_cho_row (.agg #[.int .i64 e.op, .int .i64 e.n, .string e.name, .slice eA e.kids.length ec, .int .i64 0, .slice none 0 0, .slice aA a.length ac, .int .i64 0, .slice none 0 0, .slice bA bb.length bc]) W
    have ha2 := fun W => assert_cho (.int .i64 e.op) (.int .i64 e.n) (.string e.name) (.slice eA e.kids.length ec) (.int .i64 0) (.slice none 0 0) (.slice aA a.length ac) (.int .i64 0) (.slice none 0 0) (.slice bA bb.length bc) W
    have hU : ExF (fun k => P k ∨ k ∈ blks (.slice B n b) qs) w e eA ec := ⟨hec, fun M hM => by
     obtain ⟨eA', ec', aA', ac', bA', bc', hv', _, hr, _⟩ := pcK_iff.1 (hv M hM)
     have e : eA = eA' := by simp at hv'; exact hv'.1.1
     rw [e]; exact hr⟩
    have HU := Lib.hid hU
    clear hU hv hB he
    go_wp2_with fail
    go_meet
    exact ⟨w.heap.size, ⟨headP (.choice e a bb), none, 0, none, 0, none, 0, eA, ec⟩, rfl, (new2 w _ _).1, rfl, rfl, ⟨RowF.nil _ _ _ _ _, RowF.nil _ _ _ _ _, HU.out.below (new2 w _ _).2⟩, (new2 w _ _).2⟩
   | step nm al =>
    obtain ⟨gA, gc, he, hgc, _⟩ := pcK_iff.1 (hv [] (by simp))
    obtain ⟨rfl, rfl⟩ : vt = 97 ∧ vu = .agg #[.string nm, .slice gA al.length gc] := by simpa using he
    have ha := fun W => assert_step_row (.agg #[.string nm, .slice gA al.length gc]) W
    have ha2 := fun W => assert_step_cho (.agg #[.string nm, .slice gA al.length gc]) W
    have ha3 := fun W => assert_step (.string nm) (.slice gA al.length gc) W
    have hU : RowF arK (fun k => P k ∨ k ∈ blks (.slice B n b) qs) w gA gc al := ⟨hgc, fun M hM => by
     obtain ⟨gA', gc', hv', _, hr⟩ := pcK_iff.1 (hv M hM)
     have e : gA = gA' := by simp at hv'; exact hv'.1
     rw [e]; exact hr⟩
    have HU := Lib.hid hU
    clear hU hv hB he
    go_wp2_with fail
    go_meet
    exact ⟨w.heap.size, ⟨headP (.step nm al), none, 0, none, 0, gA, gc, none, 0⟩, rfl, (new2 w _ _).1, rfl, rfl, ⟨RowF.nil _ _ _ _ _, HU.out.below (new2 w _ _).2, ExF.leaf rfl⟩, (new2 w _ _).2⟩
  case rest =>
   obtain ⟨K, q0, rfl, hk1, hq1, hq2, hR, hb1⟩ := hcut
   have H1 := Lib.hid (H.out.1.below hb1)
   have HQ := Lib.hid (⟨hq1, hq2, hR, hb1⟩ : _ ∧ _ ∧ _ ∧ _)
   have hkl := blk_lt hk1
   obtain ⟨⟨kind, kids, us, nm, al, ⟨eo, en, enm, ek⟩⟩, kA, kc, uA, uc, gA, gc, eA, ec⟩ := q0
   have hkids : kids = [] := by have := congrArg Nd.kids hq1; cases p <;> exact this
   subst hkids
   obtain ⟨rfl, rfl⟩ : kA = none ∧ kc = 0 := by have : Value.slice kA 0 kc = .slice none 0 0 := hq2; simpa using this
   obtain ⟨c0, c1, c2, c3, c4, c5, c6, c7, c8⟩ := blk9 hk1
   have hn : n ≤ 1000 := by omega
   have hz1 := hb1.size
   clear hk1 hq1 hq2 hR hb1
   go_wp2_with (at_builtin; refine Hid.out ?_)
   refine Lib.hid ?_
   refine wpList_node (by rfl) _ _ (by rfl) (by rfl) H1.out ⟨⟨kind, [], us, nm, al, .mk eo en enm ek⟩, none, 0, uA, uc, gA, gc, eA, ec⟩ rfl rfl HQ.out.2.2.1 #[.int .i64 kind, .slice none 0 0, .slice uA us.length uc, .string nm, .slice gA al.length gc, .int .i64 eo, .int .i64 en, .string enm, .slice eA ek.length ec] (by rfl) _ (by rfl) hn (by omega) ?_
   intro g cap w2 hN2 hS2 hm2
   have H2 := Lib.hid (⟨hN2, hS2, hm2⟩ : _ ∧ _ ∧ _)
   clear hN2 hS2 hm2 c0 c1 c2 c3 c4 c5 c6 c7 c8 hkl
   go_wp2_with fail
   have hS02 : Same (blks (.slice B n b) qs) w w2 := (Same.of_below HQ.out.2.2.2).then_ H2.out.2.1
   refine (HPT.out _ w2 hS02 (fun k hk => .inr hk)).mono ?_
   rintro r w3 ⟨pA, pc, Z, rfl, hrow, hb3, hz1', hz2⟩
   have hs02 := hS02.size
   have H3 := Lib.hid (⟨H2.out.1.below hb3, hrow, hS02.below_ hb3, fun k hk => (H2.out.2.2 k hk).imp id (fun h => Nat.le_trans hz1 h), fun k hk => by
    have hl := (H2.out.1.lt k hk).2
    rcases H2.out.2.2 k hk with h1 | h1
    ·exact hz1' k (.inr h1) hl
    ·exact hz2 k (by omega) (.inl hl)⟩ : NodesB b0 P w3 (some ⟨g, 0, none⟩) (n + 1) cap _ ∧ RowF pcK Z w3 pA pc (partsP p) ∧ Same (blks (.slice B n b) qs) w w3 ∧ (∀ k, k ∈ blks _ _ → k ∈ blks (.slice B n b) qs ∨ w.heap.size ≤ k) ∧ ∀ k, k ∈ blks (.slice (some ⟨g, 0, none⟩) (n + 1) cap) _ → Z k)
   have HZ : Hid ((∀ k, w3.heap.size ≤ k → Z k) ∧ ∀ k, P k → Z k) := Lib.hid ⟨fun k hk => hz2 k (by have := hb3.size; omega) (.inr hk), fun k hk => hz1' k (.inl hk) (by have := hP k hk; omega)⟩
   have hpl := hrow.1
   have hml := (hrow.2 [] (by simp)).1
   have hs23 := hb3.size
   have hnum : numP n p = { headP p with kids := (numPs (n + 1) (partsP p)).2 } :: (numPs (n + 1) (partsP p)).1 := numP_eq _ _
   have HNU := Lib.hid hnum
   rw [hnum] at hcn
   simp only [List.length_cons] at hcn
   have HK2 := Lib.hid (⟨hs02, hs23⟩ : _ ∧ _)
   have hq1 : (⟨kind, [], us, nm, al, .mk eo en enm ek⟩ : Nd) = headP p := HQ.out.1
   have HH := Lib.hid hq1
   clear hS02 hrow hb3 hz1' hz2 hnum hme heg hs02 hs23 hq1 HPT
   go_wp2_with fail
   go_loopg [0, 47] ((partsP p).length + 1) (fun k s0 s47 wr => ∃ i m B' b' qs', s0 = .slice B' m b' ∧ s47 = .int .i64 (i : Nat) ∧ i ≤ (partsP p).length ∧ (partsP p).length - i < k ∧ NodesB b0 P wr B' m b' qs' ∧ m = n + 1 + (numPs (n + 1) ((partsP p).take i)).1.length ∧
    qs'.map (·.nd) = qs.map (·.nd) ++ ({ headP p with kids := (numPs (n + 1) ((partsP p).take i)).2 } :: (numPs (n + 1) ((partsP p).take i)).1) ∧ Same (blks (.slice B n b) qs) w wr ∧ (∀ k, k ∈ blks (.slice B' m b') qs' → k ∈ blks (.slice B n b) qs ∨ w.heap.size ≤ k) ∧ (∀ k, k ∈ blks (.slice B' m b') qs' → Z k) ∧ RowF pcK Z wr pA pc (partsP p) ∧ w3.heap.size ≤ wr.heap.size)
   case atStart =>
    refine ⟨0, n + 1, some ⟨g, 0, none⟩, cap, _, rfl, rfl, Nat.zero_le _, by omega, H3.out.1, ?_, ?_, H3.out.2.2.1, H3.out.2.2.2.1, H3.out.2.2.2.2, H3.out.2.1, Nat.le_refl _⟩
    ·rw [List.take_zero, numPs_nil]; rfl
    ·rw [List.take_zero, numPs_nil, List.map_append, ← HH.out]; rfl
   case round =>
    obtain ⟨i, m, B', b', qs', rfl, rfl, hip, hik, hB', hm', hnd, hS', hmem, hmz, hrow, hsz⟩ := hrel
    obtain ⟨gk, rfl⟩ : ∃ k, gk = k + 1 := ⟨gk - 1, by omega⟩
    by_cases hlt : i < (partsP p).length
    ·obtain ⟨ad, cs, rfl, hav, hcell⟩ := hrow.at_ i hlt
     have hp := List.getElem_mem hlt
     obtain ⟨q, hq⟩ : ∃ q, (partsP p)[i] = q := ⟨_, rfl⟩
     have htk : (partsP p).take (i + 1) = (partsP p).take i ++ [q] := by rw [List.take_succ_eq_append_getElem hlt, hq]
     rw [hq] at hav hp
     obtain ⟨v, rfl⟩ : ∃ v, cs = [v] := List.length_eq_one_iff.1 (pcK.len (hav [] (by simp)))
     obtain ⟨vt', vu', rfl⟩ := pc_one (hav [] (by simp))
     have c0 : wr.cell? (ad.add i) = some (.iface vt' vu') := by have := hcell 0 _ rfl; simpa [pcK] using this
     have hsn := numPs_snoc ((partsP p).take i) (n + 1) q
     rw [← htk] at hsn
     have hle : (numPs (n + 1) ((partsP p).take (i + 1))).1.length ≤ (numPs (n + 1) (partsP p)).1.length := numPs_take _ _ _
     have em : (m : Int) = n + 1 + ((numPs (n + 1) ((partsP p).take i)).1.length : Int) := by rw [hm']; omega
     rw [← em] at hsn
     have HCall := Lib.hid (ih q vt' vu' wr B' m b' qs' (by have := parts_lt hp; omega) hB' (hav.more (fun k hk => .inl (hk.elim (HZ.out.2 k) (hmz k)))) (by have := HK2.out; omega) (by rw [hsn] at hle; simp at hle; omega))
     have HR := Lib.hid (⟨hm', hnd, hS', hmem, hmz, hrow, hsn, hB'.len, hle⟩ : _ ∧ _ ∧ _ ∧ _ ∧ _ ∧ _ ∧ _ ∧ _ ∧ _)
     have hii : (i : Int) < ((partsP p).length : Int) := by omega
     clear hB' hm' hnd hS' hmem hmz hrow hav hcell hsn hle htk hq hp em
     go_wp2_with fail
     refine HCall.out.mono ?_
     rintro r w5 ⟨B5, b5, qs5, rfl, hB5, hnd5, hS5, hmem5⟩
     have hl5 : qs5.length = m + (numP m q).length := by
      have h1 := congrArg List.length hnd5
      rw [List.length_map, List.length_append, List.length_map, HR.out.2.2.2.2.2.2.2.1] at h1
      exact h1
     have hm0 : n < m := by have := HR.out.1; omega
     have hnq : n < qs5.length := by omega
     obtain ⟨g5, rfl⟩ : ∃ g5, B5 = some ⟨g5, 0, none⟩ := by
      rcases hB5.own.2 with ⟨_, h0⟩ | ⟨g5, cap5, cur5, he, _⟩
      ·omega
      ·injection he with e1 _ _; exact ⟨g5, e1⟩
     obtain ⟨x, hx⟩ : ∃ x, qs5[n] = x := ⟨_, rfl⟩
     have hxm : x ∈ qs5 := hx ▸ List.getElem_mem hnq
     have hcell : w5.cell? ⟨g5, n * 9 + 1, none⟩ = some x.kV := by
      have h1 := hB5.own.cells (g := g5) rfl (n * 9 + 1) x.kV (by rw [getElem?_flatMap_const (f := NQ.enc) (n := 9) (fun _ => rfl) qs5 n 1 hnq (by omega), hx]; rfl)
      simpa [Addr.add] using h1
     have hxk : x.nd = { headP p with kids := (numPs (n + 1) ((partsP p).take i)).2 } := by
      have h1 := congrArg (fun l => l[n]?) hnd5
      simp only at h1
      rw [List.getElem?_map, List.getElem?_eq_getElem hnq, hx, HR.out.2.1] at h1
      have hq0 : (qs.map (·.nd)).length = n := by rw [List.length_map]; exact H.out.1.len
      rw [List.append_assoc, List.getElem?_append_right (by omega), hq0, Nat.sub_self] at h1
      simpa using h1
     have hkl : x.nd.kids.length ≤ 1000 := by
      rw [hxk]
      have h1 := numPs_le ((partsP p).take i) (n + 1 : Int)
      have h2 := numPs_take (n + 1) (partsP p) i
      show (numPs (n + 1) ((partsP p).take i)).2.length ≤ 1000
      omega
     have hfr : w5.frozen? ⟨g5, n * 9 + 1, none⟩ = false := hB5.own.frozenAt _
     have HB5 := Lib.hid (⟨hB5, hnd5, hS5, hmem5⟩ : _ ∧ _ ∧ _ ∧ _)
     have HX := Lib.hid (⟨hx, hxm, hxk, hl5⟩ : _ ∧ _ ∧ _ ∧ _)
     have hnz : (n : Int) < (qs5.length : Int) := by omega
     have hlg5 := World.block_lt_of_cell? w5 _ hcell
     obtain ⟨xA, xc, hkv⟩ : ∃ xA xc, x.kV = .slice xA x.nd.kids.length xc := ⟨_, _, rfl⟩
     rw [hkv] at hcell
     have HKV := Lib.hid hkv
     have hms := hB5.own.1
     have hcap5 : qs5.length ≤ 9223372036854775807 := by
      rcases hB5.own.2 with ⟨_, h0⟩ | ⟨g5, cap5, cur5, he, _, _, h3, h4, _⟩
      ·omega
      ·unfold maxLen at h4; omega
     clear hB5 hnd5 hS5 hmem5 hx hxm hxk hl5 hkv hms c0
     obtain ⟨kl, hkl'⟩ : ∃ k, x.nd.kids.length = k := ⟨_, rfl⟩
     rw [hkl'] at hcell hkl HKV
     have HKL := Lib.hid hkl'
     clear hkl'
     go_wp2_with (at_builtin; refine Hid.out ?_)
     refine Lib.hid ?_
     obtain ⟨i0, hi0, hz0, hz1, hz2⟩ := info_parts info_int'
     have hown5 := HB5.out.1.kid x HX.out.2.1
     rw [HKV.out, HKL.out] at hown5
     refine wpList_append_lies _ (by rfl) _ _ _ (by rfl) b0 3 i0 _ 1 8 Tryz.underlying36 hi0 hz0 hz1 hz2 rfl (by omega) (.slice xA kl xc) kl (x.nd.kids.map (Value.int .i64 ·)) (by rfl) (hown5.alloc _) ⟨w5.heap.size, 0, none⟩ 1 1 [.int .i64 m] (by rfl) (by rfl) (World.news_of_block (cs := #[.int .i64 m]) (t := 3) (fr := (0, 0)) (heap_alloc_new w5 _)) (by simp [Value.oneCell']) (by omega) (by unfold maxLen; omega) (by omega) (by have := HB5.out.2.2.1.size; have := HR.out.2.2.1.size; simp; omega) (w5.heap.size + 1) (by simp) ?_
     intro g6 cap6 w6 hown6 hgrow hat hlt6
     have hS6 : Same (Value.slice xA kl xc).ownBlock.toList w5 w6 := ((Same.refl _ w5).alloc _).grown hgrow (fun k hk => .inl (by rw [hk]; simp))
     have hne : g5 ∉ (Value.slice xA kl xc).ownBlock.toList := fun hc => blks_dist HB5.out.1.dist x HX.out.2.1 g5 (by rw [HKV.out]; simpa using hc) rfl
     have hcell6 := hS6.cell (p := ⟨g5, n * 9 + 1, none⟩) hne hcell
     have hfr6 : w6.frozen? ⟨g5, n * 9 + 1, none⟩ = false := (World.frozen?_of_block (hS6.block g5 hlg5 hne)).trans hfr
     have hlg6 := World.block_lt_of_cell? w6 _ hcell6
     have hpush := NodesB.kidPush (j := n) (num := m) (w := w5) (w6 := w6) (g := g6) (cap := cap6) HB5.out.1 hnq (by rw [HX.out.1, HKV.out]; exact hgrow) (by rw [HX.out.1, HKL.out]; exact hown6) (by rw [HX.out.1, HKV.out]; exact hat)
     rw [HX.out.1, HKL.out] at hpush
     have HPU := Lib.hid hpush
     clear hown5 hown6 hgrow hat hS6 hne hcell hfr hpush hi0 hz0 hz1 hz2
     go_wp2_with fail
     go_roundg gk
     case measure => omega
     case rel =>
      obtain ⟨hB5, hnd5, hS5, hmem5⟩ := HB5.out
      obtain ⟨hx, hxm, hxk, hl5⟩ := HX.out
      obtain ⟨hm', hnd, hS', hmem, hmz, hrow, hsn, _, _⟩ := HR.out
      obtain ⟨hP1, hP2, hP3⟩ := HPU.out
      have hw5 := hS5.size
      have hw' := hS'.size
      have hz5 : ∀ k, k ∈ blks (.slice (some ⟨g5, 0, none⟩) qs5.length b5) qs5 → Z k := fun k hk => (hmem5 k hk).elim (hmz k) (fun h => HZ.out.1 k (by omega))
      have hm5 : ∀ k, k ∈ blks (.slice (some ⟨g5, 0, none⟩) qs5.length b5) qs5 → k ∈ blks (.slice B n b) qs ∨ w.heap.size ≤ k := fun k hk => (hmem5 k hk).elim (hmem k) (fun h => .inr (by omega))
      have hq0 : (qs.map (·.nd)).length = n := by rw [List.length_map]; exact H.out.1.len
      refine ⟨i + 1, qs5.length, some ⟨g5, 0, none⟩, b5, qs5.set n (x.one m g6 cap6), rfl, by go_num, by omega, by omega, hP1, ?_, ?_, (hS'.trans hS5 (fun y hy => hmem y hy)).trans hP2 (fun y hy => hm5 y hy), fun k hk => (hP3 k hk).elim (hm5 k) (fun h => .inr (by omega)), fun k hk => (hP3 k hk).elim (hz5 k) (fun h => HZ.out.1 k (by omega)), (hrow.keep hS5 hmz).keep hP2 hz5, ?_⟩
      ·rw [hl5, hsn]
       simp only [List.length_append]
       omega
      ·rw [List.map_set, hnd5, hnd, hsn, List.append_assoc, List.set_append_right _ _ (by omega), hq0, Nat.sub_self, List.cons_append, List.set_cons_zero]
       have e : (x.one m g6 cap6).nd = { headP p with kids := (numPs (n + 1) ((partsP p).take i)).2 ++ [(m : Int)] } := by
        unfold NQ.one
        simp only [hxk]
       rw [e]
      ·have := hP2.size; omega
    ·obtain rfl : i = (partsP p).length := by omega
     rw [List.take_length] at hnd
     have HR := Lib.hid (⟨hB', hnd, hS', hmem⟩ : _ ∧ _ ∧ _ ∧ _)
     have hl5 := hB'.len
     clear hB' hnd hS' hmem hmz hrow hm' hip
     go_wp2_with fail
     go_ret2
     subst hl5
     exact ⟨B', b', qs', rfl, HR.out.1, by rw [HNU.out]; exact HR.out.2.1, HR.out.2.2.1, HR.out.2.2.2⟩
end Go.Proofs.YtgcfjkfipkfijaaGreatDoor
namespace Go.Proofs.YtgcfjkfipkfijaaGreatDoor
open Go Go.RowKit Go.Lib
theorem size_mk (l : List UInt8) : (⟨l.toArray⟩ : ByteArray).size = l.length := rfl
theorem cut_le (l s : List UInt8) : (cut l s).1.length ≤ l.length := by
 unfold cut
 split
 ·exact List.length_take_le' _ _
 ·exact Nat.le_refl _
theorem tokF_text (l : List UInt8) : (tokF l).1.text.size ≤ l.length := by
 unfold tokF
 simp only
 split
 ·split
  ·exact Nat.zero_le _
  ·show (⟨(l.take _).toArray⟩ : ByteArray).size ≤ _
   rw [size_mk]
   exact List.length_take_le' _ _
 ·split
  ·split
   ·show (⟨(l.take _).toArray⟩ : ByteArray).size ≤ _
    rw [size_mk]
    exact List.length_take_le' _ _
   ·exact Nat.zero_le _
  ·split
   ·unfold textF
    simp only
    split
    ·exact Nat.zero_le _
    ·split
     ·exact Nat.zero_le _
     ·split
      ·exact Nat.zero_le _
      ·show (⟨(cut (cut (l.drop 1) [10]).1 [34]).1.toArray⟩ : ByteArray).size ≤ _
       rw [size_mk]
       exact Nat.le_trans (cut_le _ _) (Nat.le_trans (cut_le _ _) (by simp))
   ·split
    ·show (⟨(l.take _).toArray⟩ : ByteArray).size ≤ _
     rw [size_mk]
     exact List.length_take_le' _ _
    ·exact Nat.zero_le _
theorem cutG_text (N : Nat) : ∀ (f : Nat) (l : List UInt8) (a : Int) (out : List Tok), l.length ≤ N → (∀ t, t ∈ out → t.text.size ≤ N) → ∀ t, t ∈ (cutG f l a out).1 → t.text.size ≤ N
 | 0, _, _, _, _, _, t, ht => by simp [cutG] at ht
 | f + 1, l, a, out, hl, ho, t, ht => by
  rw [cutG] at ht
  split at ht
  ·rcases List.mem_append.1 ht with ht | ht
   ·exact ho t ht
   ·simp at ht; subst ht; exact Nat.zero_le _
  ·simp only at ht
   generalize (if out.length = 2000 then (2 : Int) else (tokF l).2.2) = e at ht
   split at ht
   ·simp at ht
   ·refine cutG_text N f _ _ _ ?_ ?_ t ht
    ·refine Nat.le_trans (skipN_pos_drop _ _) ?_
     rw [List.length_drop]; omega
    ·intro t ht
     rcases List.mem_append.1 ht with ht | ht
     ·exact ho t ht
     ·simp at ht; subst ht
      exact Nat.le_trans (tokF_text l) hl
theorem cutB_text (s : ByteArray) : ∀ t, t ∈ (cutB s).1 → t.text.size ≤ 8192 := by
 unfold cutB
 split
 ·intro t ht; simp at ht
 ·split
  ·intro t ht; simp at ht
  ·rename_i h _
   refine cutG_text 8192 _ _ _ _ ?_ (fun t ht => by simp at ht)
   refine Nat.le_trans (skipN_pos_drop _ _) ?_
   have := size_data s
   omega
theorem toks_of {s : ByteArray} (h : (cutB s).2.1 = 0) : Toks (cutB s).1 := by
 have he := cutB_ended s h
 refine ⟨he, fun a h1 h2 => takeP_in a he ⟨h1, h2⟩, fun i => ?_⟩
 unfold tokAt
 split
 ·exact Nat.zero_le _
 ·rw [List.getD_eq_getElem?_getD]
  cases hh : (cutB s).1[i.toNat]? with
  | none => exact Nat.zero_le _
  | some t => exact cutB_text s t (List.mem_of_getElem? hh)
mutual
def cP : Pc → Nat
 | .row _ _ kids => 1 + cPs kids
 | .choice _ a b => 3 + (cPs a + cPs b)
 | .step _ _ => 1
def cPs : List Pc → Nat
 | [] => 0
 | p :: ps => cP p + cPs ps
end
theorem numP_len (N : Nat) : (∀ p : Pc, SizeOf.sizeOf p < N → ∀ b, (numP b p).length = cP p) ∧ ∀ ps : List Pc, SizeOf.sizeOf ps < N → ∀ b, (numPs b ps).1.length = cPs ps := by
 induction N with
 | zero => exact ⟨fun p h => by omega, fun ps h => by omega⟩
 | succ N ih =>
  refine ⟨fun p h b => ?_, fun ps h b => ?_⟩
  ·cases p with
   | row k us kids =>
    rw [numP, cP, List.length_cons, ih.2 kids (by simp at h; omega)]
    omega
   | choice e x y =>
    simp at h
    rw [numP, cP]
    simp only [List.length_cons, List.length_append]
    rw [ih.2 x (by omega), ih.2 y (by omega)]
    omega
   | step nm al => rw [numP, cP]; rfl
  ·cases ps with
   | nil => rw [numPs_nil, cPs]; rfl
   | cons p ps =>
    simp at h
    rw [numPs_cons, cPs]
    simp only [List.length_append]
    rw [ih.1 p (by omega), ih.2 ps (by omega)]
theorem numP_cnt (b : Int) (p : Pc) : (numP b p).length = cP p := (numP_len (SizeOf.sizeOf p + 1)).1 p (by omega) b
theorem cPs_app : ∀ (a b : List Pc), cPs (a ++ b) = cPs a + cPs b
 | [], b => by simp [cPs]
 | p :: a, b => by rw [List.cons_append, cPs, cPs, cPs_app a b]; omega
def NodeCnt (l : List Tok) (m : Int) (nd : RS → Pc × RS) : Prop := ∀ s, InR l s → s.bad = 0 → m ≤ s.nodes → (nd s).2.bad = 0 → (cP (nd s).1 : Int) ≤ (nd s).2.nodes - s.nodes
theorem partsF_cnt {l : List Tok} {m : Int} {nd : RS → Pc × RS} (hon : NodeOn l m nd) (hc : NodeCnt l m nd) : ∀ (f : Nat) (ps : List Pc) (s : RS), InR l s → m ≤ s.nodes → (partsF l nd f ps s).2.bad = 0 → s.bad = 0 ∧ (cPs (partsF l nd f ps s).1 : Int) ≤ cPs ps + ((partsF l nd f ps s).2.nodes - s.nodes)
 | 0, ps, s, h, _, hb => ⟨hb, by simp only [partsF]; omega⟩
 | f + 1, ps, s, h, hm, hb => by
  rw [partsF] at hb ⊢
  split at hb
  ·rename_i hi
   rw [if_pos hi]
   have h1 := hon s h hi.1 hm
   have h2 := partsF_cnt hon hc f (ps ++ [(nd s).1]) (nd s).2 h1.1.1 (Int.le_trans hm h1.1.2) hb
   have h3 := hc s h hi.1 hm h2.1
   have h4 := h2.2
   rw [cPs_app] at h4
   simp only [cPs] at h4
   exact ⟨hi.1, by omega⟩
  ·rename_i hi
   rw [if_neg hi]
   exact ⟨hb, by simp⟩
theorem rMust_z {l : List Tok} {x : ByteArray} {s : RS} (h : (rMust l x s).bad = 0) : s.bad = 0 := Decidable.byContradiction fun hc => rMust_b hc h
theorem rMust_n {l : List Tok} {x : ByteArray} {s : RS} : (rMust l x s).nodes = s.nodes := by
 unfold rMust rTakes rFail rPass
 repeat' split
 all_goals rfl
theorem rTakes_n {l : List Tok} {x : ByteArray} {s : RS} : (rTakes l x s).2.nodes = s.nodes := by
 unfold rTakes rPass
 split <;> rfl
theorem blockP_cnt {l : List Tok} {m : Int} {nd : RS → Pc × RS} (hl : EndL l) (hon : NodeOn l m nd) (hc : NodeCnt l m nd) {s : RS} (h : InR l s) (hm : m ≤ s.nodes) (hb : (blockP l nd s).2.bad = 0) : s.bad = 0 ∧ (cPs (blockP l nd s).1 : Int) ≤ (blockP l nd s).2.nodes - s.nodes := by
 have h1 := rMust_on hl ⟨#[123]⟩ (by decide) h
 unfold blockP at hb ⊢
 simp only at hb ⊢
 have h2 := partsF_cnt hon hc 30 [] _ h1.1 (Int.le_trans hm h1.2) (rMust_z hb)
 refine ⟨rMust_z h2.1, ?_⟩
 have h3 := h2.2
 rw [rMust_n] at h3 ⊢
 simp only [cPs] at h3
 omega
theorem rBegin_n (n : Int) (s : RS) : (rBegin n s).nodes = s.nodes + n := by
 unfold rBegin rFail
 repeat' split
 all_goals rfl
theorem nodeS_cnt {l : List Tok} {m : Int} {nd : RS → Pc × RS} (hl : EndL l) (ht : TakeIn l) (hon : NodeOn l (m + 1) nd) (hc : NodeCnt l (m + 1) nd) (w : ByteArray) : NodeCnt l m (nodeS l (blockP l nd) w) := fun s h hb hm hz => by
 unfold nodeS at hz ⊢
 have one := rBegin_on 1 (by decide) (by decide) hb h
 split at hz
 ·rename_i hw
  rw [if_pos hw]
  have hw0 : w.size ≠ 0 := by rcases hw with hw | hw <;> exact seq_size hw (by decide)
  have h1 := rTakes_on hl w hw0 one.1.1
  have h2 := (blockP_cnt hl hon hc h1.1 (by have := h1.2; have := one.2; omega) hz).2
  rw [rTakes_n, rBegin_n] at h2
  simp only [cP]
  omega
 ·rename_i hw
  rw [if_neg hw]
  split at hz
  ·rename_i hu
   rw [if_pos hu]
   have h1 := rTakes_on hl w (seq_size hu (by decide)) one.1.1
   have h2 := h1.trans (rName_on hl [] h1.1)
   have h3 := h2.trans (unitF_on hl 8 [(rName l [] (rTakes l w (rBegin 1 s)).2).1] _ h2.1)
   have h4 := (blockP_cnt hl hon hc h3.1 (by have := h3.2; have := one.2; omega) hz).2
   have h5 := h3.2
   rw [rBegin_n] at h5
   simp only [cP]
   omega
  ·rename_i hu
   rw [if_neg hu]
   split at hz
   ·rename_i hi
    rw [if_pos hi]
    have three := rBegin_on 3 (by decide) (by decide) hb h
    have h1 := rTakes_on hl w (seq_size hi (by decide)) three.1.1
    have h2 := h1.trans (rExpr_on ht h1.1)
    have h3 := h2.trans (blockP_on hl hon h2.1 (by have := h2.2; have := three.2; omega))
    have h4 := h3.trans (rTakes_on hl wElse (by decide) h3.1)
    have h5 := h2.2
    rw [rBegin_n] at h5
    simp only at hz ⊢
    split at hz
    ·rename_i he
     rw [if_pos he]
     have k1 := blockP_cnt hl hon hc h4.1 (by have := h4.2; have := three.2; omega) hz
     rw [rTakes_b, rTakes_n] at k1
     have k2 := (blockP_cnt hl hon hc h2.1 (by have := h2.2; have := three.2; omega) k1.1).2
     simp only [cP]
     omega
    ·rename_i he
     rw [if_neg he]
     rw [rTakes_b] at hz
     have k2 := (blockP_cnt hl hon hc h2.1 (by have := h2.2; have := three.2; omega) hz).2
     simp only [cP, cPs, rTakes_n]
     omega
   ·rename_i hi
    rw [if_neg hi]
    split at hz
    ·rename_i hp
     rw [if_pos hp]
     have h1 := rTakes_on hl w (seq_size hp (by decide)) one.1.1
     have h2 := h1.trans (stepP_on hl ht h1.1)
     have h3 := h2.2
     rw [rBegin_n] at h3
     have e : cP (stepP l (rTakes l w (rBegin 1 s)).2).1 = 1 := by unfold stepP; simp only [cP]
     rw [e]
     omega
    ·exact absurd hz (rFail_bad (by decide) s)
theorem nodeF_cnt {l : List Tok} (hl : EndL l) (ht : TakeIn l) : ∀ f : Nat, NodeCnt l (25 - f) (nodeF l f)
 | 0 => fun s h hb hm _ => by have := h.2.2.2.2 hb; omega
 | f + 1 => fun s h hb hm hz => by
  rw [nodeF] at hz ⊢
  have h1 := nodeF_on hl ht f
  have h2 := nodeF_cnt hl ht f
  have e : 25 - ((f + 1 : Nat) : Int) + 1 = 25 - f := by omega
  rw [← e] at h1 h2
  exact nodeS_cnt hl ht h1 h2 _ s h hb hm hz
def ndRep (M : List Nat) (w : World) (x : Nd) (cs : List Value) : Prop :=
 ∃ q : NQ, q.nd = x ∧ cs = q.enc ∧ (x.kids.length ≤ q.kc ∧ (Kind.int .i64).Row M w q.kA x.kids) ∧ (x.units.length ≤ q.uc ∧ Kind.str.Row M w q.uA x.units) ∧ (x.args.length ≤ q.gc ∧ arK.Row M w q.gA x.args) ∧ x.e.kids.length ≤ q.ec ∧ exK.Row M w q.eA x.e.kids
def ndK : Kind Nd := ⟨9, ndRep, fun h => by obtain ⟨q, _, rfl, _⟩ := h; rfl,
 fun h s => by obtain ⟨q, h1, h2, h3, h4, h5, h6⟩ := h; exact ⟨q, h1, h2, ⟨h3.1, h3.2.keep s⟩, ⟨h4.1, h4.2.keep s⟩, ⟨h5.1, h5.2.keep s⟩, h6.1, h6.2.keep s⟩,
 fun h s => by obtain ⟨q, h1, h2, h3, h4, h5, h6⟩ := h; exact ⟨q, h1, h2, ⟨h3.1, h3.2.less s⟩, ⟨h4.1, h4.2.less s⟩, ⟨h5.1, h5.2.less s⟩, h6.1, h6.2.less s⟩⟩
theorem ints_flat : ∀ xs : List Int, xs.map (Value.int .i64 ·) = xs.flatMap (fun x => [Value.int .i64 x])
 | [] => rfl
 | x :: xs => by rw [List.map_cons, List.flatMap_cons, ints_flat xs]; rfl
theorem own_ints {w : World} {b0 : Nat} {t : TypeId} {P : Nat → Prop} {A : Option Addr} {c : Nat} {xs : List Int} (h : w.ownsRow b0 t 1 (.slice A xs.length c) xs.length (xs.map (Value.int .i64 ·))) (hP : ∀ k, P k → k < b0) : RowF (Kind.int .i64) P w A c xs := by
 have e : xs.map (Value.int .i64 ·) = (xs.map (fun x => (x, [Value.int .i64 x]))).flatMap (·.2) := by
  rw [List.flatMap_map]
  exact ints_flat xs
 have hG : GrowB (Kind.int .i64) t b0 P w A xs.length c (xs.map (fun x => (x, [Value.int .i64 x]))) := ⟨by simp, by rw [e] at h; exact h, fun q hq => by
  obtain ⟨x, _, rfl⟩ := List.mem_map.1 hq
  exact fun _ _ => rfl⟩
 have h1 := hG.out hP (fun q hq => by obtain ⟨x, _, rfl⟩ := List.mem_map.1 hq; rfl)
 rwa [List.map_map, show ((fun q : Int × List Value => q.1) ∘ fun x => (x, [Value.int .i64 x])) = id from rfl, List.map_id] at h1
theorem NodesB.out {b0 : Nat} {P : Nat → Prop} {w : World} {B : Option Addr} {n b : Nat} {qs : List NQ} (h : NodesB b0 P w B n b qs) (hP : ∀ k, P k → k < b0) : RowF ndK P w B b (qs.map (·.nd)) := by
 have hl' := h.len
 rcases h.own.2 with ⟨h', h0⟩ | ⟨g, cap, cur, hv, hg, hh, h1, h2, h3, h4⟩
 ·have : qs = [] := List.eq_nil_of_length_eq_zero (by omega)
  subst this
  exact RowF.nil _ _ _ _ _
 ·injection hv with e1 _ e3
  subst e1 e3
  refine ⟨by rw [List.length_map]; omega, fun M hM => ⟨by rw [List.length_map]; simp only [maxLen] at h2; omega, fun hn => ⟨⟨g, 0, none⟩, rfl, fun hc => ?_, (Array.getElem?_eq_some_iff.1 hh).1, fun i hi => ?_⟩⟩⟩
  ·have := hP _ (hM _ hc)
   simp at this
   omega
  ·have hi' : i < qs.length := by simpa using hi
   have hm := List.getElem_mem hi'
   have hr := h.rest _ hm
   have hk := own_ints (h.kid _ hm) hP
   refine ⟨qs[i].enc, ⟨qs[i], by rw [List.getElem_map], rfl, ?_, ?_, ?_, ?_, ?_⟩, fun j u hu => ?_⟩
   ·rw [List.getElem_map]; exact ⟨hk.1, hk.2 M hM⟩
   ·rw [List.getElem_map]; exact ⟨hr.us.1, hr.us.2 M (fun k hk => .inl (hM k hk))⟩
   ·rw [List.getElem_map]; exact ⟨hr.gs.1, hr.gs.2 M (fun k hk => .inl (hM k hk))⟩
   ·rw [List.getElem_map]; exact hr.ex.1
   ·rw [List.getElem_map]; exact hr.ex.2 M (fun k hk => .inl (hM k hk))
   ·have hj : j < 9 := (List.getElem?_eq_some_iff.1 hu).1
    exact h.own.cells (g := g) rfl (i * 9 + j) u (by rw [getElem?_flatMap_const (f := NQ.enc) (n := 9) (fun _ => rfl) qs i j hi' hj]; exact hu)
end Go.Proofs.YtgcfjkfipkfijaaGreatDoor
namespace Go.Proofs.YtgcfjkfipkfijaaGreatDoor
open Go Go.RowKit Go.Lib
theorem row_some {α : Type} {d : Kind α} {M : List Nat} {w : World} {A : Option Addr} {xs : List α} (h : d.Row M w A xs) (hp : 0 < xs.length) : ∃ ad, A = some ad := by
 obtain ⟨ad, e, _⟩ := h.2 hp
 exact ⟨ad, e⟩
end Go.Proofs.YtgcfjkfipkfijaaGreatDoor
