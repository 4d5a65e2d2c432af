/- The reader as a whole: each part, and each line, by induction. -/
import Derived.Test.YtgaiheojlmebaaaDoorR8
namespace Go.Proofs.YtgaiheojlmebaaaDoor
open Go Go.RowKit Go.Lib

theorem unP_succ (l : List Tok) (first : Int) (f : Nat) (s : St) : unP l first (f + 1) s = unS l first (unP l first f) (orOf l first (unP l first f)) s := rfl
theorem failP_at (e : Int) (s : St) : (failP e s).at_ = s.at_ := by unfold failP; split <;> rfl
theorem passP_grows (first : Int) (s : St) (h : s.at_ ≤ first + 64) : s.at_ ≤ (passP first s).2.at_ ∧ (passP first s).2.at_ ≤ first + 64 := by
  have hp := passP_at first s
  cases hb : (passP first s).1 with
  | true => have := hp.1 hb; omega
  | false => have := hp.2 hb; omega
theorem unS_grows {l : List Tok} {first : Int} {un orr : St → Ex × St} (h1 : Grows first un) (h2 : Grows first orr) : Grows first (unS l first un orr) := fun s hs => by
  have hp := passP_grows first s hs
  have hu := h1 (passP first s).2 hp.2
  have ho := h2 (passP first s).2 hp.2
  have hp2 := passP_grows first (orr (passP first s).2).2 ho.2
  unfold unS
  split
  · split
    · exact hp
    · exact ⟨by simp only; omega, hu.2⟩
  · split
    · exact ⟨by simp only [failP_at]; omega, by simp only [failP_at]; omega⟩
    · split
      · exact hp
      · split
        · exact hp
        · split
          · exact hp
          · split
            · exact ⟨by simp only [failP_at]; omega, by simp only [failP_at]; omega⟩
            · split
              · exact ⟨by simp only; omega, hp2.2⟩
              · exact ⟨by omega, ho.2⟩
theorem orOf_grows {l : List Tok} {first : Int} {un : St → Ex × St} (h : Grows first un) : Grows first (orOf l first un) :=
  rowP_grows (rowP_grows (cmpP_grows (rowP_grows (rowP_grows h))))
theorem unP_grows (l : List Tok) (first : Int) : ∀ f, Grows first (unP l first f)
  | 0 => fun s h => ⟨Int.le_refl _, h⟩
  | f + 1 => fun s h => by rw [unP_succ]; exact unS_grows (unP_grows l first f) (orOf_grows (unP_grows l first f)) s h

theorem orOf_any (l : List Tok) (g : Nat) (A : Option Addr) (c : Nat) (first lo : Int) (un : St → Ex × St)
    (hF : ReadsAs l g A c first lo 111 un) (hG : Grows first un) (hlc : l.length ≤ c) (hf0 : -9223372036854775808 ≤ first) :
    ReadsAs l g A c first lo 28 (orOf l first un) :=
  ror_any l g A c first lo _ (rand_any l g A c first lo _ (rcmp_any l g A c first lo _ (rsum_any l g A c first lo _ (rterm_any l g A c first lo _ hF hG hlc hf0)
    (rowP_grows hG) hlc hf0) (rowP_grows (rowP_grows hG)) hlc hf0) (cmpP_grows (rowP_grows (rowP_grows hG))) hlc hf0) (rowP_grows (cmpP_grows (rowP_grows (rowP_grows hG)))) hlc hf0

theorem unS_any (l : List Tok) (g : Nat) (A : Option Addr) (c : Nat) (first lo : Int) (un orr : St → Ex × St)
    (hF : ReadsAs l g A c first lo 111 un) (hO : ReadsAs l g A c first lo 28 orr) (hG : Grows first orr) (hlc : l.length ≤ c) (hf0 : -9223372036854775808 ≤ first)
    (s : St) (w : World) (hb : RdB w g A l.length c first s) (hr : tokK.Row [g] w A l) (h1 : first ≤ s.at_) (h2 : lo ≤ s.at_ + 1) (h3 : s.at_ ≤ first + 64) :
    Calls Tryd.prog 111 #[.pointer (some ⟨g, 0, none⟩)] w (RdPost g A l.length c first (unS l first un orr s) w) := by
  obtain ⟨at_, bad⟩ := s
  simp only at h1 h2 h3
  unfold unS
  cases hisp : isP l 2 3 ⟨at_, bad⟩ with
  | some op => exact un_op l g A c first lo un hF hlc hf0 ⟨at_, bad⟩ w hb hr h1 h2 h3 op hisp
  | none =>
    obtain ⟨⟨k, x, n, a⟩, ht⟩ : ∃ t, tokAt l at_ = t := ⟨_, rfl⟩
    simp only [ht]
    by_cases h0 : bad = 0
    · subst h0
      by_cases h4 : k = 4
      · subst h4
        cases hx : seq x ⟨#[40]⟩ with
        | false =>
          rw [if_pos (.inr ⟨by simp [isOpen, hx], by decide, by decide⟩)]
          exact un_fail_x l g A c first hlc hf0 at_ w hb hr h1 h3 hisp n a x ht hx
        | true =>
          rw [if_neg (by simp [isOpen, hx])]
          obtain ⟨⟨pb, sp⟩, hpp⟩ : ∃ p, passP first ⟨at_, 0⟩ = p := ⟨_, rfl⟩
          have hpa := passP_at first ⟨at_, 0⟩
          rw [hpp] at hpa
          simp only [hpp]
          cases pb with
          | false => exact un_par_f l g A c first hlc hf0 at_ w hb hr h1 h3 hisp n a x ht hx sp hpp
          | true =>
            have hp1 := hpa.1 rfl
            simp only at hp1
            rw [if_neg (by simp), if_neg (by decide), if_neg (by decide)]
            have hg2 := hG sp (by omega)
            obtain ⟨⟨e, at2, bad2⟩, hp2⟩ : ∃ p, orr sp = p := ⟨_, rfl⟩
            rw [hp2] at hg2
            simp only at hg2
            obtain ⟨⟨k2, x2, n2, a2⟩, ht2⟩ : ∃ t, tokAt l at2 = t := ⟨_, rfl⟩
            simp only [hp2, ht2]
            by_cases hb2 : bad2 = 0
            · subst hb2
              by_cases hk2 : k2 = 4
              · subst hk2
                cases hx2 : seq x2 ⟨#[41]⟩ with
                | false =>
                  rw [if_pos ⟨rfl, by simp [isShut, hx2]⟩]
                  exact un_par_x l g A c first hlc hf0 at_ w hb hr h1 h3 hisp n a x ht hx sp hpp lo orr hO (by omega) (by omega) (by omega) e at2 n2 a2 x2 hp2 ht2 (by omega) (by omega) hx2
                | true =>
                  rw [if_neg (by simp [isShut, hx2]), if_pos rfl]
                  exact un_par_ok l g A c first hlc hf0 at_ w hb hr h1 h3 hisp n a x ht hx sp hpp lo orr hO (by omega) (by omega) (by omega) e at2 n2 a2 x2 hp2 ht2 (by omega) (by omega) hx2
              · rw [if_pos ⟨rfl, by simp [isShut, hk2]⟩]
                exact un_par_k l g A c first hlc hf0 at_ w hb hr h1 h3 hisp n a x ht hx sp hpp lo orr hO (by omega) (by omega) (by omega) e at2 k2 n2 a2 x2 hp2 ht2 (by omega) (by omega) hk2
            · rw [if_neg (fun h => hb2 h.1), if_neg hb2]
              exact un_par_bad l g A c first hlc hf0 at_ w hb hr h1 h3 hisp n a x ht hx sp hpp lo orr hO (by omega) (by omega) (by omega) e at2 bad2 k2 n2 a2 x2 hp2 ht2 (by omega) (by omega) hb2
      · by_cases h5 : k = 2
        · subst h5
          rw [if_neg (by simp)]
          obtain ⟨⟨pb, sp⟩, hpp⟩ : ∃ p, passP first ⟨at_, 0⟩ = p := ⟨_, rfl⟩
          simp only [hpp]
          cases pb with
          | false => exact un_num_f l g A c first hlc hf0 at_ w hb hr h1 h3 hisp n a x ht sp hpp
          | true => exact un_num l g A c first hlc hf0 at_ w hb hr h1 h3 hisp n a x ht sp hpp
        · by_cases h6 : k = 1
          · subst h6
            rw [if_neg (by simp)]
            obtain ⟨⟨pb, sp⟩, hpp⟩ : ∃ p, passP first ⟨at_, 0⟩ = p := ⟨_, rfl⟩
            simp only [hpp]
            cases pb with
            | false => exact un_name_f l g A c first hlc hf0 at_ w hb hr h1 h3 hisp n a x ht sp hpp
            | true => exact un_name l g A c first hlc hf0 at_ w hb hr h1 h3 hisp n a x ht sp hpp
          · rw [if_pos (.inr ⟨by simp [isOpen, h4], h5, h6⟩)]
            exact un_fail_k l g A c first hlc hf0 at_ w hb hr h1 h3 hisp k n a x ht h4 h5 h6
    · rw [if_pos (.inl h0)]
      by_cases h4 : k = 4
      · subst h4
        exact un_fail_b4 l g A c first hlc hf0 at_ bad w hb hr h1 h3 hisp n a x ht h0
      · exact un_fail_b l g A c first hlc hf0 at_ bad w hb hr h1 h3 hisp k n a x ht h0 h4

theorem unary_any (l : List Tok) (g : Nat) (A : Option Addr) (c : Nat) (first : Int) (hlc : l.length ≤ c) (hf0 : -9223372036854775808 ≤ first) :
    ∀ f : Nat, ReadsAs l g A c first (first + 65 - f) 111 (unP l first f)
  | 0 => fun s w _ _ _ h2 h3 => by simp at h2; omega
  | f + 1 => fun s w hb hr h1 h2 h3 => by
    have hu := unary_any l g A c first hlc hf0 f
    have hg := unP_grows l first f
    rw [unP_succ]
    exact unS_any l g A c first (first + 65 - f) (unP l first f) (orOf l first (unP l first f)) hu (orOf_any l g A c first _ _ hu hg hlc hf0) (orOf_grows hg) hlc hf0 s w hb hr h1 (by push_cast at h2; omega) h3
theorem expr_any (l : List Tok) (g : Nat) (A : Option Addr) (c : Nat) (first : Int) (hlc : l.length ≤ c) (hf0 : -9223372036854775808 ≤ first) :
    ReadsAs l g A c first first 28 (orOf l first (unP l first 66)) :=
  (orOf_any l g A c first _ _ (unary_any l g A c first hlc hf0 66) (unP_grows l first 66) hlc hf0).lo (by simp; omega)
end Go.Proofs.YtgaiheojlmebaaaDoor
