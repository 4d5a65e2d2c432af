/- Any tree comes to the number, or to the error, that the document says: the statement. -/
import Derived.Test.YtgaiheojlmebaaaDoorS8
import Derived.Test.YtgaiheojlmebaaaDoorO1
import Derived.OpenShut
import Derived.ChangeMaps5
namespace Go.Proofs.YtgaiheojlmebaaaDoor
open Go Go.RowKit Go.ChangeShapes Go.WideShapes

set_option maxRecDepth 100000 in
/-- Cells that come in. -/
theorem cels_arg {H : Type} {enc : TypeId × Value → H} {W : World} {r : Reach} {b0 : Nat} {v : Value} {d : DataW H} {ps : List MemPlace} (hv : Value.okWide Tryd.prog W r b0 34 v) (h : DataW.Trod enc Tryd.prog W 0 (fun _ => true) true 34 v d ps) (hw : Light8 34 d) :
    ∃ (l : List Cel) (A : Option Addr) (c : Nat), v = .slice A l.length c ∧ l.length ≤ c ∧ celK.Row [] W A l ∧ ∀ x, x ∈ l → CelIn x := by
  obtain ⟨a, len, cap, rfl⟩ := okWide_slice (P := Tryd.prog) Tryd.underlying34 hv
  obtain ⟨fuel, hf⟩ := h
  have hf' : Reads8 enc W fuel 34 [.slice a len cap] (d, ps) := hf
  have hw' : Light8 34 ((d, ps) : DataW H × List MemPlace).1 := hw
  obtain ⟨xs, A, c, h3, hc, hr, hk, _⟩ := row_open celK (Q := CelIn) Tryd.underlying34 cells_cel (by decide) (fun n _ cs x hx hw => cel_open n cs x hx hw) hf' hw'
  exact ⟨xs, A, c, (List.cons.inj h3).1, hc, hr, hk⟩

theorem evals_witness (os : Os) {H : Type} (enc : TypeId × Value → H) :
    (OpenSpec.ofChange Rows.exprEvalsSpec).preRow enc Tryd.prog Tryd.f5 Rows.exprEvalsRow.domain false Rows.exprEvalsRow.laid ((laidWorld os).forCall (fun _ _ => 0) ⟨#[], #[.agg #[.int .i64 0, .int .i64 0, .string ⟨#[]⟩, .slice none 0 0], .slice none 0 0], []⟩).memory #[.agg #[.int .i64 0, .int .i64 0, .string ⟨#[]⟩, .slice none 0 0], .slice none 0 0] := by
  have hw : (DataW.whole enc Tryd.prog ((laidWorld os).forCall (fun _ _ => 0) ⟨#[], #[.agg #[.int .i64 0, .int .i64 0, .string ⟨#[]⟩, .slice none 0 0], .slice none 0 0], []⟩).memory Tryd.f5.params.toList (OpenSpec.ofChange Rows.exprEvalsSpec).vars false #[Value.agg #[.int .i64 0, .int .i64 0, .string ⟨#[]⟩, .slice none 0 0], Value.slice none 0 0].toList 8).map (fun x => (x.1, x.2.1)) =
      some ([.agg [.lit (.int .i64 0), .lit (.int .i64 0), .lit (.string []), .nil], .nil], []) := by kernel_rfl
  obtain ⟨⟨x1, x2, x3⟩, hx, hx1⟩ := Option.map_eq_some_iff.1 hw
  simp only [Prod.mk.injEq] at hx1
  obtain ⟨rfl, rfl⟩ := hx1
  exact OpenSpec.preRow_of_cond 8 hx (by kernel_rfl) (fun k hk => by cases hk) (by kernel_rfl) (laid_met os _)

set_option maxRecDepth 100000 in
theorem evals_lifted (os : Os) (started : os.Started) (H : Type) (enc : TypeId × Value → H) (F : Stop.Interp) :
    ReturnsInHanded {} Tryd.checked os 5 .any ((OpenSpec.ofChange Rows.exprEvalsSpec).preRow enc Tryd.prog Tryd.f5 Rows.exprEvalsRow.domain false Rows.exprEvalsRow.laid)
      (((OpenSpec.ofChange Rows.exprEvalsSpec).at F).post enc Tryd.prog Tryd.f5 false true false false) := by
  refine returnsInHanded_of_row (C := Tryd.checked) (s := OpenSpec.ofChange Rows.exprEvalsSpec) own started (by kernel_rfl) Tryd.func5
    (witness_row_atRef (enc := enc) (C := Tryd.checked) false (laidWorld os) #[.agg #[.int .i64 0, .int .i64 0, .string ⟨#[]⟩, .slice none 0 0], .slice none 0 0] rfl (by kernel_rfl) (by kernel_rfl) (by kernel_rfl) (evals_witness os enc)) ?_
  intro W base args ds gs before hval0 hW _ _ hz hL hsh _
  have hval : ∀ (j : Nat) t v, Tryd.f5.params[j]? = some t → args[j]? = some v → Value.okWide Tryd.prog W .any base t v := hval0
  have hW' := hW
  obtain ⟨p, q, hA0, hV0, rfl, _, _⟩ := hW
  have hA : DataW.TrodAll enc Tryd.prog W 0 (fun _ => true) true Tryd.f5.params.toList args.toList ds p := hA0
  rw [Tryd.params5] at hA hval hz
  obtain ⟨v0, v1, d0, d1, p0, p1, rfl, rfl, rfl, h0, h1⟩ := trodAll_two hA
  obtain ⟨rfl, rfl⟩ := trodVars_none hV0
  have hz1 : (DataW.weightsEach Tryd.prog ([25, 34] ++ []) ([d0, d1] ++ [])).all (fun n => decide (n ≤ reachBytes)) = true := hz
  have hz3 : Light8 25 d0 ∧ Light8 34 d1 := by
    unfold Light8
    simpa [DataW.weightsEach] using hz1
  obtain ⟨hz2, hz4⟩ := hz3
  obtain ⟨e, A, c, rfl, hc, hr, hk⟩ := ex_arg (hval 0 25 v0 rfl rfl) h0 hz2
  obtain ⟨l, B, b, rfl, hb, hl, hf⟩ := cels_arg (hval 1 34 v1 rfl rfl) h1 hz4
  clear hA0 hV0 hval0 hz hz1
  simp only [List.append_nil] at hW'
  have hlt0 : ∀ x ∈ p0, x.block < W.heap.size := fun x hx => by simpa using hW'.lt x (by simp [hx])
  have hlt1 : ∀ x ∈ p1, x.block < W.heap.size := fun x hx => by simpa using hW'.lt x (by simp [hx])
  refine (evals_any l B b e A c W (tabs_of hL hsh) hk hr hc hl hb (fun x hx => (hf x hx).n)).mono ?_
  rintro r W' ⟨rfl, bel⟩
  have e1 : ((OpenSpec.ofChange Rows.exprEvalsSpec).at F).fn H ([d0, d1] ++ []) = { results := [.lit (.bool true)], args := [d0, d1] } := rfl
  refine ⟨_, rfl, _, _, _, [], p0 ++ p1, [], hW', ?_, ?_, ?_, bel.frame _, fun h => by cases h⟩
  · rw [e1]; exact trodAll_mk1 (shut_bool Tryd.underlying4 true)
  · rw [e1]
    exact trodAll_mk2 (Below.trod laidOut (by kernel_rfl) (of_decide_eq_true (by kernel_rfl)) h0 bel hlt0) (Below.trod laidOut (by kernel_rfl) (of_decide_eq_true (by kernel_rfl)) h1 bel hlt1)
  · rw [e1]; rfl

theorem evals_holds : Rows.ExprEvalsSaid :=
  OpenClaim.holds_of_cond 5 Tryd.f5 rfl rfl rfl rfl rfl rfl rfl ⟨rfl, rfl, rfl, rfl, rfl⟩ rfl rfl rfl rfl rfl (by kernel_rfl) Tryd.func5 (by kernel_rfl)
    (of_decide_eq_true (by kernel_rfl)) (by unfold Func.isWrapper; rw [if_neg (of_decide_eq_false (by kernel_rfl))]; exact ⟨rfl, rfl⟩)
    (fun os started H enc _ F0 => by rw [OpenClaim.pre_eq_preRow]; exact evals_lifted os started H enc F0)

theorem evals_card : Rows.ExprEvalsCardSaid :=
  Claim7.holds_tied_plain_at .later [] [.data, .data, .data, .data, .pinned] true (true, "492019d7a133489ab40f23ad8727885439d95fc6fb320a664dc92aa2b28f63bf") false
    evals_holds (fun _ h => by cases h) (by kernel_rfl) (fun _ h => by cases h) exprEvals_row_tie rfl ⟨rfl, rfl⟩ (by kernel_rfl) rfl
    (fun f fn hf hfn => by
      obtain rfl : f = 5 := Option.some.inj ((show Tryd.prog.funcNamed "malthouse/malthouselaw02.ExprEvals" = some 5 by kernel_rfl).symm.trans hf) |>.symm
      obtain rfl : fn = Tryd.f5 := (Option.some.inj (Tryd.func5.symm.trans hfn)).symm
      exact ⟨by kernel_rfl, fun j t ht => by
        rw [Tryd.params5] at ht
        have h3 : t = 25 ∨ t = 34 := by
          rcases j with _ | _ | j
          · exact .inl (by simpa using ht.symm)
          · exact .inr (by simpa using ht.symm)
          · simp at ht
        rcases h3 with rfl | rfl
        · exact (show Tryd.prog.wantsStandIn 25 = false by kernel_rfl)
        · exact (show Tryd.prog.wantsStandIn 34 = false by kernel_rfl)⟩)
    (by kernel_rfl)
#print axioms evals_card
end Go.Proofs.YtgaiheojlmebaaaDoor
