/- The longest expression is taken: the statement. -/
import Derived.Test.YtgaiheojlmebaaaDoorW7
import Derived.Test.YtgaiheojlmebaaaDoorO1
import Derived.OpenShut
import Derived.ChangeMaps5
namespace Go.Proofs.YtgaiheojlmebaaaDoor
open Go Go.RowKit Go.ChangeShapes Go.WideShapes

set_option maxRecDepth 100000 in
/-- Tokens that come in. -/
theorem toks_arg {H : Type} {enc : TypeId × Value → H} {W : World} {r : Reach} {b0 : Nat} {v : Value} {d : DataW H} {ps : List MemPlace} (hv : Value.okWide Tryd.prog W r b0 31 v) (h : DataW.Trod enc Tryd.prog W 0 (fun _ => true) true 31 v d ps) (hw : Light8 31 d) :
    ∃ (l : List Tok) (A : Option Addr) (c : Nat), v = .slice A l.length c ∧ l.length ≤ c ∧ tokK.Row [] W A l := by
  obtain ⟨a, len, cap, rfl⟩ := okWide_slice (P := Tryd.prog) Tryd.underlying31 hv
  obtain ⟨fuel, hf⟩ := h
  have hf' : Reads8 enc W fuel 31 [.slice a len cap] (d, ps) := hf
  have hw' : Light8 31 ((d, ps) : DataW H × List MemPlace).1 := hw
  obtain ⟨xs, A, c, h3, hc, hr, _, _⟩ := row_open tokK (Q := TokIn) Tryd.underlying31 cells_tok (by decide) (fun n _ cs x hx hw => tok_open n cs x hx hw) hf' hw'
  exact ⟨xs, A, c, (List.cons.inj h3).1, hc, hr⟩

theorem takes_witness (os : Os) {H : Type} (enc : TypeId × Value → H) :
    (OpenSpec.ofChange Rows.exprTakesSpec).preRow enc Tryd.prog Tryd.f4 Rows.exprTakesRow.domain false Rows.exprTakesRow.laid ((laidWorld os).forCall (fun _ _ => 0) ⟨#[], #[.slice none 0 0, .int .i64 0], []⟩).memory #[.slice none 0 0, .int .i64 0] := by
  have hw : (DataW.whole enc Tryd.prog ((laidWorld os).forCall (fun _ _ => 0) ⟨#[], #[.slice none 0 0, .int .i64 0], []⟩).memory Tryd.f4.params.toList (OpenSpec.ofChange Rows.exprTakesSpec).vars false #[Value.slice none 0 0, Value.int .i64 0].toList 8).map (fun x => (x.1, x.2.1)) =
      some ([.nil, .lit (.int .i64 0)], []) := by kernel_rfl
  obtain ⟨⟨x1, x2, x3⟩, hx, hx1⟩ := Option.map_eq_some_iff.1 hw
  simp only [Prod.mk.injEq] at hx1
  obtain ⟨rfl, rfl⟩ := hx1
  exact OpenSpec.preRow_of_cond 8 hx (by kernel_rfl) (fun k hk => by cases hk) (by kernel_rfl) (laid_met os _)

set_option maxRecDepth 100000 in
theorem takes_lifted (os : Os) (started : os.Started) (H : Type) (enc : TypeId × Value → H) (F : Stop.Interp) :
    ReturnsInHanded {} Tryd.checked os 4 .any ((OpenSpec.ofChange Rows.exprTakesSpec).preRow enc Tryd.prog Tryd.f4 Rows.exprTakesRow.domain false Rows.exprTakesRow.laid)
      (((OpenSpec.ofChange Rows.exprTakesSpec).at F).post enc Tryd.prog Tryd.f4 false true false false) := by
  refine returnsInHanded_of_row (C := Tryd.checked) (s := OpenSpec.ofChange Rows.exprTakesSpec) own started (by kernel_rfl) Tryd.func4
    (witness_row_atRef (enc := enc) (C := Tryd.checked) false (laidWorld os) #[.slice none 0 0, .int .i64 0] rfl (by kernel_rfl) (by kernel_rfl) (by kernel_rfl) (takes_witness os enc)) ?_
  intro W base args ds gs before hval0 hW _ _ hz hL hsh _
  have hval : ∀ (j : Nat) t v, Tryd.f4.params[j]? = some t → args[j]? = some v → Value.okWide Tryd.prog W .any base t v := hval0
  have hW' := hW
  obtain ⟨p, q, hA0, hV0, rfl, _, _⟩ := hW
  have hA : DataW.TrodAll enc Tryd.prog W 0 (fun _ => true) true Tryd.f4.params.toList args.toList ds p := hA0
  rw [Tryd.params4] at hA hval hz
  obtain ⟨v0, v1, d0, d1, p0, p1, rfl, rfl, rfl, h0, h1⟩ := trodAll_two hA
  obtain ⟨rfl, rfl⟩ := trodVars_none hV0
  obtain ⟨a, rfl, rfl, rfl, wa⟩ := open_int Tryd.underlying3 (hval 1 3 v1 rfl rfl) h1
  have hz1 : (DataW.weightsEach Tryd.prog ([31, 3] ++ []) ([d0, .lit (.int .i64 a)] ++ [])).all (fun n => decide (n ≤ reachBytes)) = true := hz
  have hz2 : Light8 31 d0 := by
    unfold Light8
    simp only [List.append_nil, DataW.weightsEach, List.all_append, Bool.and_eq_true] at hz1
    exact hz1.1
  obtain ⟨l, A, c, rfl, hc, hr⟩ := toks_arg (hval 0 31 v0 rfl rfl) h0 hz2
  clear hA0 hV0 hval0 hz hz1
  simp only [List.append_nil] at hW'
  have hlt : ∀ x ∈ p0, x.block < W.heap.size := fun x hx => by simpa using hW'.lt x (by simpa using hx)
  have fa : Fits a := bounds_i64 wa
  refine (takes_any l A c a W (tabs_of hL hsh) hr hc fa.1).mono ?_
  rintro r W' ⟨rfl, bel⟩
  have e1 : ((OpenSpec.ofChange Rows.exprTakesSpec).at F).fn H ([d0, .lit (.int .i64 a)] ++ []) = { results := [.lit (.bool true)], args := [d0, .lit (.int .i64 a)] } := rfl
  refine ⟨_, rfl, _, _, _, [], p0, [], hW', ?_, ?_, ?_, bel.frame _, fun h => by cases h⟩
  · rw [e1]; exact trodAll_mk1 (shut_bool Tryd.underlying4 true)
  · rw [e1]
    have h9 := trodAll_mk2 (Below.trod laidOut (by kernel_rfl) (of_decide_eq_true (by kernel_rfl)) h0 bel hlt) (shut_int (n := a) Tryd.underlying3 wa)
    rw [List.append_nil] at h9
    exact h9
  · rw [e1]; rfl

theorem takes_holds : Rows.ExprTakesSaid :=
  OpenClaim.holds_of_cond 4 Tryd.f4 rfl rfl rfl rfl rfl rfl rfl ⟨rfl, rfl, rfl, rfl, rfl⟩ rfl rfl rfl rfl rfl (by kernel_rfl) Tryd.func4 (by kernel_rfl)
    (of_decide_eq_true (by kernel_rfl)) (by unfold Func.isWrapper; rw [if_neg (of_decide_eq_false (by kernel_rfl))]; exact ⟨rfl, rfl⟩)
    (fun os started H enc _ F0 => by rw [OpenClaim.pre_eq_preRow]; exact takes_lifted os started H enc F0)

theorem takes_card : Rows.ExprTakesCardSaid :=
  Claim7.holds_tied_plain_at .later [] [.data, .data, .data, .data, .pinned] true (true, "492019d7a133489ab40f23ad8727885439d95fc6fb320a664dc92aa2b28f63bf") false
    takes_holds (fun _ h => by cases h) (by kernel_rfl) (fun _ h => by cases h) exprTakes_row_tie rfl ⟨rfl, rfl⟩ (by kernel_rfl) rfl
    (fun f fn hf hfn => by
      obtain rfl : f = 4 := Option.some.inj ((show Tryd.prog.funcNamed "malthouse/malthouselaw02.ExprTakes" = some 4 by kernel_rfl).symm.trans hf) |>.symm
      obtain rfl : fn = Tryd.f4 := (Option.some.inj (Tryd.func4.symm.trans hfn)).symm
      exact ⟨by kernel_rfl, fun j t ht => by
        rw [Tryd.params4] at ht
        have h3 : t = 31 ∨ t = 3 := by
          rcases j with _ | _ | j
          · exact .inl (by simpa using ht.symm)
          · exact .inr (by simpa using ht.symm)
          · simp at ht
        rcases h3 with rfl | rfl
        · exact (show Tryd.prog.wantsStandIn 31 = false by kernel_rfl)
        · exact (show Tryd.prog.wantsStandIn 3 = false by kernel_rfl)⟩)
    (by kernel_rfl)
#print axioms takes_card
end Go.Proofs.YtgaiheojlmebaaaDoor
