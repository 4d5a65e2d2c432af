/- Part 24 of the proof of ragain_card; no conditions. -/
import Derived.Test.YtgcfjkfipkfijaaGreatDoorAg01
import Derived.Test.YtgcfjkfipkfijaaGreatDoorAg23
import Derived.Test.YtgcfjkfipkfijaaGreatDoorAg13
import Derived.Test.YtgcfjkfipkfijaaGreatDoorAg11
import Derived.Test.YtgcfjkfipkfijaaGreatDoorAg17
import Derived.Test.YtgcfjkfipkfijaaGreatDoorAg18
import Derived.Test.YtgcfjkfipkfijaaGreatDoorAg15
set_option maxRecDepth 100000
set_option maxHeartbeats 8000000
namespace Go.Proofs.YtgcfjkfipkfijaaGreatDoor
open Go Go.RowKit Go.Lib Tryz
section
variable {l : List aZ} {s : RS} {m : Int} {nd : RS → Pc × RS}
theorem mK {w o} (hk : dd (ah l s.at_) = w) (h : (aj l w (aP o s)).2.bad = 0) : (aj l w (aP o s)).2 = ⟨s.at_ + 1, 0, s.nodes + o⟩ := by
 have h1 := zw (eu h).1
 rw [h1.2, cV hk]
theorem zy (hl : fF l) (ht : fi l) (hW : gU l) (hon : dt l (m + 1) nd) (hg : kb l (m + 1) nd) {w} (hi : fE l s) (hb : s.bad = 0) (hm : m ≤ s.nodes) (hk : dd (ah l s.at_) = w) (h : (df l (az l nd) w s).2.bad = 0) :
  jw (df l (az l nd) w s).1 ∧ s.at_ + aB (kg (df l (az l nd) w s).1) ≤ (df l (az l nd) w s).2.at_ := by
 have one := cU 1 (by decide) (by decide) hb hi
 unfold df at h ⊢
 by_cases h1 : dE w kp = true ∨ dE w jb = true
 ·rw [M_ h1] at h ⊢
  have hw0 : w.size ≠ 0 := by rcases h1 with hw | hw <;> exact dg hw (by decide)
  have ht1 := aC hl w hw0 one.1.1
  simp only at h ⊢
  have h2 := ke hl hon hg ht1.1 (by have := ht1.2; have := one.2; omega) h
  have h3 := mK hk h2.1
  rw [h3] at h2 ⊢
  obtain ⟨B, hB⟩ := nm_ (az l nd ⟨s.at_ + 1, 0, s.nodes + 1⟩)
  rw [hB] at h2 ⊢
  refine ⟨by rw [jw]; exact ⟨.inl ⟨by split; exact .inr rfl; exact .inl rfl, rfl⟩, h2.2.1⟩, ?_⟩
  have h4 := h2.2.2
  rw [kg, bo]
  have e : aB (fI (if dE w jb = true then 1 else 0) []) = 1 := by split <;> rfl
  rw [e]
  unfold kO at h4
  simp only at h4 ⊢
  omega
 ·rw [K_ h1] at h ⊢
  by_cases h2 : dE w dH = true
  ·rw [M_ h2] at h ⊢
   have ht1 := aC hl w (dg h2 (by decide)) one.1.1
   have ht2 := ht1.trans (ck hl [] ht1.1)
   have ht3 := ht2.trans (ib hl 8 [(aI l [] (aj l w (aP 1 s)).2).1] _ ht2.1)
   simp only at h ⊢
   have h3 := ke hl hon hg ht3.1 (by have := ht3.2; have := one.2; omega) h
   have h4 := (mF _ _ _ h3.1).1
   have h5 := kP hW h4
   have h6 := mK hk h5.1
   have h7 := tO hW 8 [(aI l [] (aj l w (aP 1 s)).2).1] _ ⟨by simp, by simp, by simp, fun u hu => by simp at hu; subst hu; exact h5.2.1⟩ h3.1
   obtain ⟨U, hU⟩ := nm_ (de l 8 [(aI l [] (aj l w (aP 1 s)).2).1] (aI l [] (aj l w (aP 1 s)).2).2)
   have h8 : (aI l [] (aj l w (aP 1 s)).2).2.at_ = s.at_ + 2 := by rw [h5.2.2.2, h6]; simp only [cK]; omega
   rw [h8] at h7
   rw [hU] at h h3 h7 ⊢
   obtain ⟨B, hB⟩ := nm_ (az l nd U.2)
   rw [hB] at h3 ⊢
   refine ⟨by rw [jw]; exact ⟨.inr ⟨rfl, h7.1⟩, h3.2.1⟩, ?_⟩
   have h9 := h3.2.2
   have h10 := h7.2.2
   have e : (aB (fI 2 U.1) : Int) = 2 * U.1.length := by
    obtain ⟨u, us, hus⟩ := m_ h7.1.1
    rw [hus]
    unfold fI
    rw [K_ (by decide), M_ rfl, bo, AM]
    have : ∀ vs : List ByteArray, aB (vs.flatMap (fun v => [.sgn ⟨#[44]⟩, .nam v])) = 2 * vs.length := by
     intro vs
     induction vs with
     | nil => rfl
     | cons v vs ih => rw [i_, bo, ih, P_]; simp only [aB, TP.cost]; omega
    simp only [aB, TP.cost, this, P_]
    omega
   rw [kg, bo]
   unfold kO at h9
   simp only [P_, b_] at h9 h10 ⊢
   omega
  ·rw [K_ h2] at h ⊢
   by_cases h3 : dE w lM = true
   ·rw [M_ h3] at h ⊢
    have dF := cU 3 (by decide) (by decide) hb hi
    have ht1 := aC hl w (dg h3 (by decide)) dF.1.1
    have ht2 := ht1.trans (fQ ht ht1.1)
    have ht3 := ht2.trans (cf hl hon ht2.1 (by have := ht2.2; have := dF.2; omega))
    have ht4 := ht3.trans (aC hl ct (by decide) ht3.1)
    obtain ⟨E, hE⟩ := nm_ (dq l (aj l w (aP 3 s)).2)
    have hew := xT (l := l) (s := (aj l w (aP 3 s)).2) hW
    rw [hE] at ht2 ht3 ht4 hew
    have hbw := ke (s := E.2) hl hon hg ht2.1 (by have := ht2.2; have := dF.2; omega)
    simp only [hE] at h ⊢
    obtain ⟨A, hA⟩ := nm_ (az l nd E.2)
    rw [hA] at ht3 ht4 hbw
    simp only [hA] at h ⊢
    obtain ⟨C, hC⟩ := nm_ (aj l ct A.2)
    have hcw := iP (l := l) (s := A.2) (x := ct) (by decide)
    have hcn := gm (l := l) (s := A.2) (x := ct)
    rw [hC] at ht4 hcw hcn
    simp only [hC] at h ⊢
    by_cases hc : C.1 = true
    ·rw [M_ hc] at h ⊢
     have h4 := ke hl hon hg ht4.1 (by have := ht4.2; have := dF.2; omega) h
     obtain ⟨h5, h6⟩ := hcw hc
     have h7 := hbw h5
     have h8 := hew h7.1
     have h9 := mK hk h8.1
     obtain ⟨B, hB⟩ := nm_ (az l nd C.2)
     rw [hB] at h4 ⊢
     refine ⟨by rw [jw]; exact ⟨h8.2.1, h7.2.1, h4.2.1⟩, ?_⟩
     have g1 := h8.2.2
     have g2 := h7.2.2
     have g3 := h4.2.2
     rw [h9] at g1
     rw [h6] at g3
     simp only [cK] at g1 g3
     rw [kg]
     unfold kO at g2 g3
     simp only [bo, aB, TP.cost] at g2 g3 ⊢
     split
     ·simp only [aB]; omega
     ·simp only [bo, aB, TP.cost]; omega
    ·rw [K_ hc] at h ⊢
     have hc2 := hcn (by simpa using hc)
     rw [hc2] at h ⊢
     have h7 := hbw h
     have h8 := hew h7.1
     have h9 := mK hk h8.1
     refine ⟨by rw [jw, et]; exact ⟨h8.2.1, h7.2.1, trivial⟩, ?_⟩
     have g1 := h8.2.2
     have g2 := h7.2.2
     rw [h9] at g1
     simp only at g1
     rw [kg]
     unfold kO at g2
     simp only [bo, aB, TP.cost, List.isEmpty_nil, if_true] at g2 ⊢
     omega
   ·rw [K_ h3] at h ⊢
    by_cases h4 : dE w cW = true
    ·rw [M_ h4] at h ⊢
     have h5 := Ak hW h
     have h6 := mK hk h5.1
     rw [h6] at h5 ⊢
     refine ⟨h5.2.1, ?_⟩
     have := h5.2.2
     simp only at this
     omega
    ·rw [K_ h4] at h
     exact absurd h (bu (by decide) s)
theorem tP (hl : fF l) (ht : fi l) (hW : gU l) : ∀ f : Nat, kb l (25 - f) (cE l f)
 | 0 => fun s hi hb hm _ => absurd (hi.2.2.2.2 hb) (by omega)
 | f + 1 => fun s hi hb hm h => by
  rw [cE] at h ⊢
  have h1 := tP hl ht hW f
  have h2 := fj hl ht f
  have e : 25 - ((f + 1 : Nat) : Int) + 1 = 25 - f := by omega
  rw [← e] at h1 h2
  exact zy hl ht hW h2 h1 hi hb hm rfl h
def qU (p : ia) : Prop := gl p.name ∧ -9223372036854775807 ≤ p.n ∧ p.n ≤ 9223372036854775807
def mL (ps : List ia) : Prop := ps.length ≤ 4 ∧ (ps.map (·.name)).Nodup ∧ ∀ p, p ∈ ps → qU p
def kf (n : Int) : List TP := if n < 0 then [.sgn ⟨#[45]⟩, .num (-n)] else [.num n]
def iy (p : ia) : List TP := [.key dr] ++ ([.nam p.name] ++ ([.sgn ⟨#[58, 61]⟩] ++ (kf p.n ++ ((if p.scaled = true then [.key b9] else []) ++ [.sgn ⟨#[59]⟩]))))
def dD (ps : List ia) : List TP := ps.flatMap iy
theorem xW {n} (h0 : 0 ≤ n) (h1 : n ≤ 9223372036854775807) : wrap64 (-n) = -n := by
 exact IntWalk.wrap64_in _ ⟨by omega, by omega⟩
theorem Al (hW : gU l) {q} (h : (kq l q s).2.bad = 0) : s.bad = 0 ∧ (kq l q s).2 = cK s ∧ ∃ k : Int, 0 ≤ k ∧ k ≤ 9223372036854775807 ∧ (kq l q s).1 = if q = true then -k else k := by
 unfold kq at h ⊢
 simp only at h ⊢
 by_cases hc : s.bad = 0 ∧ (ah l s.at_).kind ≠ 2
 ·rw [M_ hc] at h
  have hb := bu (e := 11) (by decide) s
  rw [K_ hb] at h
  exact absurd h hb
 ·rw [K_ hc] at h ⊢
  by_cases hb : s.bad = 0
  ·rw [M_ hb]
   have h2 : (ah l s.at_).kind = 2 := Decidable.byContradiction fun hd => hc ⟨hb, hd⟩
   have hg := hW s.at_ (by rw [h2]; decide)
   have h3 := hg.2.1.1 h2
   have h4 : (ah l s.at_).n ≤ 9223372036854775807 := hg.2.2.2
   refine ⟨hb, rfl, (ah l s.at_).n, h3, h4, ?_⟩
   simp only
   rw [xW h3 h4]
  ·rw [K_ hb] at h
   exact absurd h hb
theorem Am (hW : gU l) {had} (h : (kr l had s).2.bad = 0) : s.bad = 0 ∧ qU (kr l had s).1 ∧ (kr l had s).1.name ∉ had ∧ s.at_ + aB (iy (kr l had s).1) ≤ (kr l had s).2.at_ + 1 := by
 unfold kr at h ⊢
 simp only at h ⊢
 obtain ⟨a, ha⟩ := nm_ (aI l had s)
 have hna := kP (l := l) (s := s) hW (had := had)
 rw [ha] at h hna ⊢
 obtain ⟨b, hb⟩ := nm_ (aN l ⟨#[58, 61]⟩ a.2)
 have hmb := gM (l := l) (s := a.2) (x := ⟨#[58, 61]⟩) (by decide)
 rw [hb] at h hmb ⊢
 obtain ⟨c, hc⟩ := nm_ (aj l ⟨#[45]⟩ b)
 have hcw := iP (l := l) (s := b) (x := ⟨#[45]⟩) (by decide)
 have hcn := gm (l := l) (s := b) (x := ⟨#[45]⟩)
 have hcc := eu (l := l) (s := b) (x := ⟨#[45]⟩)
 rw [hc] at h hcw hcn hcc ⊢
 obtain ⟨e, he⟩ := nm_ (kq l c.1 c.2)
 have hew := Al (l := l) (s := c.2) hW (q := c.1)
 rw [he] at h hew ⊢
 obtain ⟨f, hf⟩ := nm_ (aj l b9 e.2)
 have hfw := iP (l := l) (s := e.2) (x := b9) (by decide)
 have hfn := gm (l := l) (s := e.2) (x := b9)
 have hfc := eu (l := l) (s := e.2) (x := b9)
 rw [hf] at h hfw hfn hfc ⊢
 have h1 := gM (by decide) h
 have h2 := hew (hfc h1.1).1
 obtain ⟨k, k0, k1, hk⟩ := h2.2.2
 have h3 := hmb (hcc h2.1).1
 have h4 := hna h3.1
 have hca : c.2.at_ = b.at_ + (if c.1 = true then 1 else 0) := by
  by_cases hq : c.1 = true
  ·rw [M_ hq, (hcw hq).2]; rfl
  ·rw [K_ hq, hcn (by simpa using hq)]; omega
 have hfa : f.2.at_ = e.2.at_ + (if f.1 = true then 1 else 0) := by
  by_cases hq : f.1 = true
  ·rw [M_ hq, (hfw hq).2]; rfl
  ·rw [K_ hq, hfn (by simpa using hq)]; omega
 have hea : e.2.at_ = c.2.at_ + 1 := by rw [h2.2.1]; rfl
 have haa : a.2.at_ = s.at_ + 1 := by rw [h4.2.2.2]; rfl
 have hn1 : ((aB (kf e.1) : Nat) : Int) ≤ 1 + (if c.1 = true then 1 else 0) := by
  rw [hk]
  unfold kf
  by_cases hq : c.1 = true
  ·rw [M_ hq, M_ hq]
   split <;> simp only [aB, TP.cost] <;> omega
  ·rw [K_ hq, K_ hq, K_ (by omega)]
   simp only [aB, TP.cost]
   omega
 refine ⟨h4.1, ⟨h4.2.1, ?_, ?_⟩, h4.2.2.1, ?_⟩
 ·show -9223372036854775807 ≤ e.1
  rw [hk]; split <;> omega
 ·show e.1 ≤ 9223372036854775807
  rw [hk]; split <;> omega
 ·rw [h1.2]
  unfold iy
  simp only [bo, aB, TP.cost]
  have hs : ((aB (if f.1 = true then [TP.key b9] else []) : Nat) : Int) = if f.1 = true then 1 else 0 := by split <;> rfl
  have := h3.2
  omega
theorem xX (hW : gU l) : ∀ (f : Nat) (ps : List ia) (s : RS), mL ps → (eM l f ps s).2.bad = 0 → mL (eM l f ps s).1 ∧ s.bad = 0 ∧ s.at_ + aB (dD (eM l f ps s).1) ≤ (eM l f ps s).2.at_ + aB (dD ps)
 | 0, ps, s, hp, h => ⟨hp, h, l_ _⟩
 | f + 1, ps, s, hp, h => by
  rw [eM] at h ⊢
  by_cases hk : cj l dr s = true
  ·rw [M_ hk] at h ⊢
   have hb : s.bad = 0 := by unfold cj at hk; rw [a_, beq_iff_eq] at hk; exact hk.1
   by_cases h4 : ps.length = 4
   ·rw [M_ h4] at h
    exact absurd h (bu (by decide) s)
   ·rw [K_ h4] at h ⊢
    obtain ⟨x, hx⟩ := nm_ (kr l (ps.map (·.name)) (cK s))
    have hw := Am (l := l) (s := cK s) hW (had := ps.map (·.name))
    rw [hx] at h hw ⊢
    have hb2 := prmF_bad0 f (ps ++ [x.1]) x.2 h
    obtain ⟨g1, g2, g3, g4⟩ := hw hb2
    obtain ⟨a1, a2, a3⟩ := hp
    have hp' : mL (ps ++ [x.1]) := ⟨by simp; omega, by
     rw [f_]
     refine List.nodup_append.2 ⟨a2, by simp, fun y hy z hz => ?_⟩
     simp at hz
     subst hz
     rintro rfl
     exact g3 hy, fun p hp => by
     rcases G_ hp with hp | hp
     ·exact a3 p hp
     ·simp at hp; subst hp; exact g2⟩
    obtain ⟨r1, r2, r3⟩ := xX hW f (ps ++ [x.1]) x.2 hp' h
    refine ⟨r1, hb, ?_⟩
    have e : aB (dD (ps ++ [x.1])) = aB (dD ps) + aB (iy x.1) := by
     unfold dD
     rw [p_, bo]
     simp
    rw [e] at r3
    simp only [cK] at g4
    omega
  ·rw [K_ hk] at h ⊢
   exact ⟨hp, h, l_ _⟩
where
 prmF_bad0 : ∀ (f : Nat) (ps : List ia) (s : RS), (eM l f ps s).2.bad = 0 → s.bad = 0
  | 0, _, _, h => h
  | f + 1, ps, s, h => by
   rw [eM] at h
   by_cases hk : cj l dr s = true
   ·unfold cj at hk; rw [a_, beq_iff_eq] at hk; exact hk.1
   ·rw [K_ hk] at h; exact h
end
theorem mM (p) : cP p = 1 + cn (aF p) := by
 cases p with
 | row k us kids => rw [cP]; rfl
 | choice e a b => simp only [cP, cn, aF]; omega
 | step nm al => simp only [cP, cn, aF]
theorem o9 (p) : 1 ≤ cP p := by rw [mM]; omega
theorem vC (ps b) : (aJ b ps).1.length = cn ps := (qh (SizeOf.sizeOf ps + 1)).2 ps (by omega) b
def mN (l : List Nd) : List Int := l.flatMap (·.kids)
theorem xY (a b) : mN (a ++ b) = mN a ++ mN b := by unfold mN; rw [p_]
theorem tQ {N} (h : ∀ p, cP p ≤ N → ∀ b j : Int, (mN (bV b p)).count j = if b < j ∧ j < b + cP p then 1 else 0) :
  ∀ ps, cn ps ≤ N → ∀ b j : Int, (mN (aJ b ps).1).count j + (aJ b ps).2.count j = if b ≤ j ∧ j < b + cn ps then 1 else 0
 | [], _, b, j => by
  rw [bM, cn, K_ (by omega)]
  rfl
 | p :: ps, hN, b, j => by
  rw [cn] at hN
  have h1 := h p (by omega) b j
  have h2 := tQ h ps (by omega) (b + (bV b p).length) j
  have h3 := o9 p
  rw [aX, cn]
  simp only [xY, List.count_append, List.count_cons]
  rw [dW] at h2 ⊢
  by_cases hb : b = j
  ·subst hb
   rw [K_ (by omega)] at h1 h2
   rw [M_ (c := b ≤ b ∧ b < b + ((cP p + cn ps : Nat) : Int)) ⟨l_ _, by omega⟩]
   simp only [beq_self_eq_true, if_true]
   omega
  ·rw [K_ (c := (b == j) = true) (by simpa using hb)]
   split at h1
   ·rw [K_ (by omega)] at h2
    rw [M_ (by omega)]
    omega
   ·split at h2
    ·rw [M_ (by omega)]
     omega
    ·rw [K_ (by omega)]
     omega
theorem zz (N) : ∀ p, cP p ≤ N → ∀ b j : Int, (mN (bV b p)).count j = if b < j ∧ j < b + cP p then 1 else 0 := by
 induction N with
 | zero => intro p h; have := o9 p; omega
 | succ N ih =>
  intro p h b j
  rw [mM] at h ⊢
  have h1 := tQ ih (aF p) (by omega) (b + 1) j
  rw [gx]
  have e : mN ({ fu p with kids := (aJ (b + 1) (aF p)).2 } :: (aJ (b + 1) (aF p)).1) = (aJ (b + 1) (aF p)).2 ++ mN (aJ (b + 1) (aF p)).1 := by unfold mN; rw [i_]
  rw [e, List.count_append, Nat.add_comm, h1]
  split
  ·rw [M_ (by omega)]
  ·rw [K_ (by omega)]
def AV (hi : Int) : Int → List Int → Prop
 | _, [] => True
 | lo, k :: ks => lo < k ∧ k < hi ∧ AV hi k ks
theorem oq (hi) : ∀ (ps : List Pc) (lo b : Int), lo < b → b + cn ps ≤ hi → AV hi lo (aJ b ps).2
 | [], lo, b, _, _ => by rw [bM]; trivial
 | p :: ps, lo, b, h1, h2 => by
  rw [aX]
  rw [cn] at h2
  have := o9 p
  exact ⟨h1, by omega, oq hi ps b _ (by rw [dW]; omega) (by rw [dW]; omega)⟩
mutual
def mT : Pc → Prop
 | .row k us kids => ((k = 0 ∨ k = 1) ∧ us = [] ∨ k = 2 ∧ us ≠ []) ∧ eI kids
 | .choice _ a b => eI a ∧ eI b
 | .step _ _ => True
def eI : List Pc → Prop
 | [] => True
 | p :: ps => mT p ∧ eI ps
end
theorem qV : ∀ (a b : List Pc), eI a → eI b → eI (a ++ b)
 | [], _, _, h => h
 | p :: a, b, h, k => by
  rw [eI] at h
  rw [List.cons_append, eI]
  exact ⟨h.1, qV a b h.2 k⟩
theorem zA {p} (h : mT p) : eI (aF p) := by
 cases p with
 | row k us kids => rw [mT] at h; exact h.2
 | choice e a b =>
  rw [mT] at h
  rw [show aF (.choice e a b) = [.row 0 [] a, .row 0 [] b] from rfl, eI, eI, eI, mT, mT]
  exact ⟨⟨.inl ⟨.inl rfl, rfl⟩, h.1⟩, ⟨.inl ⟨.inl rfl, rfl⟩, h.2⟩, trivial⟩
 | step nm al => simp only [aF, eI]
theorem mO {l nd} (hn : ∀ s, mT (nd s).1) : ∀ (f : Nat) (ps : List Pc) (s : RS), eI ps → eI (bJ l nd f ps s).1
 | 0, ps, s, h => h
 | f + 1, ps, s, h => by
  rw [bJ]
  split
  ·refine mO hn f _ _ (qV _ _ h ?_)
   rw [eI, eI]
   exact ⟨hn s, trivial⟩
  ·exact h
theorem qW {l} : ∀ (f : Nat) (us : List ByteArray) (s : RS), us ≠ [] → (de l f us s).1 ≠ []
 | 0, us, s, h => h
 | f + 1, us, s, h => by
  rw [de]
  split
  ·exact qW f _ _ (by simp)
  ·exact h
theorem tR (l) : ∀ (f : Nat) (s : RS), mT (cE l f s).1
 | 0, s => by rw [cE, mT]; trivial
 | f + 1, s => by
  have hb : ∀ s, eI (az l (cE l f) s).1 := fun s => mO (tR l f) 30 [] _ (by rw [eI]; trivial)
  rw [cE]
  unfold df
  split
  ·simp only
   rw [mT]
   refine ⟨.inl ⟨?_, rfl⟩, hb _⟩
   split
   ·exact .inr rfl
   ·exact .inl rfl
  ·split
   ·simp only
    rw [mT]
    exact ⟨.inr ⟨rfl, qW 8 _ _ (by simp)⟩, hb _⟩
   ·split
    ·simp only
     split
     ·simp only [mT]
      exact ⟨hb _, hb _⟩
     ·simp only [mT, eI]
      exact ⟨hb _, trivial⟩
    ·split
     ·unfold fh
      simp only [mT]
     ·simp only [mT]
def fJ (look : Int → Nd) (b : Int) (xs : List Nd) : Prop := ∀ i (h : i < xs.length), look (b + i) = xs[i]
theorem fJ.app {look b xs ys} (h : fJ look b (xs ++ ys)) : fJ look b xs ∧ fJ look (b + xs.length) ys := by
 refine ⟨fun i hi => ?_, fun i hi => ?_⟩
 ·rw [h i (by rw [O_]; omega), List.getElem_append_left hi]
 ·have h1 := h (xs.length + i) (by rw [O_]; omega)
  rw [List.getElem_append_right (by omega)] at h1
  simp only [Nat.add_sub_cancel_left] at h1
  rw [← h1]
  congr 1
  omega
theorem fJ.cons {look b x xs} (h : fJ look b (x :: xs)) : look b = x ∧ fJ look (b + 1) xs := by
 have h1 := fJ.app (xs := [x]) (ys := xs) h
 refine ⟨?_, h1.2⟩
 have := h1.1 0 (by simp)
 simpa using this
structure xZ (n : Int) (look : Int → Nd) (i : Int) (x : Nd) : Prop where
 asc : AV n i x.kids
 two : x.kind = 4 → ∃ a b, x.kids = [a, b] ∧ (look a).kind = 0 ∧ (look b).kind = 0
 leaf : x.kind = 3 → x.kids = []
 unit : x.kind = 2 ↔ x.units ≠ []
def sO (n : Int) (look : Int → Nd) (b : Int) (xs : List Nd) : Prop := ∀ i (h : i < xs.length), xZ n look (b + i) xs[i]
theorem sO.app {n look b xs ys} (h : sO n look b xs) (k : sO n look (b + xs.length) ys) : sO n look b (xs ++ ys) := fun i hi => by
 by_cases hl : i < xs.length
 ·rw [List.getElem_append_left hl]
  exact h i hl
 ·rw [List.getElem_append_right (by omega)]
  have := k (i - xs.length) (by rw [O_] at hi; omega)
  rwa [show b + xs.length + ((i - xs.length : Nat) : Int) = b + i by omega] at this
theorem tS {n look N} (h : ∀ p, cP p ≤ N → mT p → ∀ b : Int, b + cP p ≤ n → fJ look b (bV b p) → sO n look b (bV b p)) :
  ∀ ps, cn ps ≤ N → eI ps → ∀ b : Int, b + cn ps ≤ n → fJ look b (aJ b ps).1 → sO n look b (aJ b ps).1
 | [], _, _, b, _, _ => fun i hi => by rw [bM] at hi; exact absurd hi (by simp)
 | p :: ps, hN, hk, b, hn, hs => by
  rw [cn] at hN hn
  rw [eI] at hk
  rw [aX] at hs ⊢
  have hs := fJ.app hs
  refine (h p (by omega) hk.1 b (by omega) hs.1).app (tS h ps (by omega) hk.2 _ ?_ hs.2)
  rw [dW]
  omega
theorem zB {n look} (N) : ∀ p, cP p ≤ N → mT p → ∀ b : Int, b + cP p ≤ n → fJ look b (bV b p) → sO n look b (bV b p) := by
 induction N with
 | zero => intro p h; have := o9 p; omega
 | succ N ih =>
  intro p h hk b hn hs
  have hp := mM p
  rw [gx] at hs ⊢
  obtain ⟨_, hs2⟩ := hs.cons
  have hrest := tS ih (aF p) (by omega) (zA hk) (b + 1) (by omega) hs2
  have hhead : xZ n look b { fu p with kids := (aJ (b + 1) (aF p)).2 } := by
   refine ⟨oq n (aF p) b (b + 1) (by omega) (by omega), fun h4 => ?_, fun h3 => ?_, ?_⟩
   ·cases p with
    | row k us kids =>
     rw [mT] at hk
     have h4 : k = 4 := h4
     rcases hk.1 with ⟨h | h, _⟩ | ⟨h, _⟩ <;> omega
    | choice e x y =>
     simp only [aF] at hs2 ⊢
     rw [aX, aX] at hs2
     have h1 := fJ.app hs2
     have h2 := fJ.app h1.2
     rw [aX, aX, bM]
     refine ⟨_, _, rfl, ?_, ?_⟩
     ·have h3 := h1.1
      rw [gx] at h3
      rw [h3.cons.1]
      rfl
     ·have h3 := h2.1
      rw [gx (b + 1 + (bV (b + 1) (Pc.row 0 [] x)).length) (Pc.row 0 [] y)] at h3
      rw [h3.cons.1]
      rfl
    | step nm al => exact absurd h4 (show ¬ (3 : Int) = 4 by decide)
   ·cases p with
    | row k us kids =>
     rw [mT] at hk
     have h3 : k = 3 := h3
     rcases hk.1 with ⟨h | h, _⟩ | ⟨h, _⟩ <;> omega
    | choice e x y => exact absurd h3 (show ¬ (4 : Int) = 3 by decide)
    | step nm al => show (aJ (b + 1) []).2 = []; rw [bM]
   ·cases p with
    | row k us kids =>
     rw [mT] at hk
     show k = 2 ↔ us ≠ []
     rcases hk.1 with ⟨h, h2⟩ | ⟨h, h2⟩
     ·exact ⟨fun e => by omega, fun e => absurd h2 e⟩
     ·exact ⟨fun _ => h2, fun _ => h⟩
    | choice e x y => exact ⟨fun e => absurd e (show ¬ (4 : Int) = 2 by decide), fun e => absurd rfl e⟩
    | step nm al => exact ⟨fun e => absurd e (show ¬ (3 : Int) = 2 by decide), fun e => absurd rfl e⟩
  intro i hi
  cases i with
  | zero => simpa using hhead
  | succ i =>
   have := hrest i (by simpa using hi)
   rw [List.getElem_cons_succ]
   rwa [show b + 1 + (i : Int) = b + ((i + 1 : Nat) : Int) by omega] at this
structure x9 (l : List Nd) : Prop where
 node : ∀ i (h : i < l.length), xZ l.length (bf l) i l[i]
 one : ∀ j : Int, (mN l).count j = if 0 < j ∧ j < l.length then 1 else 0
 some : 1 ≤ l.length
 most : l.length ≤ 24
 root : (bf l 0).kind = 0
theorem mP (l) : fJ (bf l) 0 l := fun i hi => by
 unfold bf
 rw [S_, show (0 + (i : Int)).toNat = i by omega, R_ hi]
 rfl
theorem vD {ks} (hk : eI ks) (h : 1 + cn ks ≤ 24) : x9 (bV 0 (.row 0 [] ks)) := by
 have hlen := dW 0 (.row 0 [] ks)
 have hc : cP (.row 0 [] ks) = 1 + cn ks := by rw [cP]
 have hK : mT (.row 0 [] ks) := by rw [mT]; exact ⟨.inl ⟨.inl rfl, rfl⟩, hk⟩
 refine ⟨fun i hi => ?_, fun j => ?_, by omega, by omega, ?_⟩
 ·have := zB (n := (bV 0 (.row 0 [] ks)).length) (cP (.row 0 [] ks)) _ le_ hK 0 (by omega) (mP _) i hi
  rwa [Int.zero_add] at this
 ·rw [zz _ _ le_, hlen, Int.zero_add]
 ·have h1 := mP (bV 0 (.row 0 [] ks))
  rw [gx] at h1 ⊢
  rw [h1.cons.1]
  rfl
theorem sP {s} (h : (cB s).2.1 = 0) : x9 (cB s).1.nodes := by
 unfold cB at h ⊢
 simp only at h ⊢
 by_cases h0 : (cd s).2.1 = 0
 ·rw [K_ (by omega)] at h ⊢
  have T := oQ h0
  by_cases hr : (gO (cd s).1).2.2.2.bad = 0
  ·rw [K_ (by omega)]
   generalize (cd s).1 = l at T hr ⊢
   unfold gO at hr ⊢
   simp only at hr ⊢
   have hin0 : fE l ⟨0, 0, 1⟩ := ⟨by show (0 : Int) ≤ 0; omega, by show (0 : Int) < _; have := T.fin.1; omega, by show (0 : Int) ≤ 1; omega, by show (1 : Int) ≤ 27; omega, fun _ => by show (1 : Int) ≤ 24; omega⟩
   have hon4 := bg T.fin bQ (by decide) hin0
   have hon5 := hon4.trans (ck T.fin [] hon4.1)
   have hon7 := hon5.trans (lq T.fin 6 [] _ hon5.1)
   generalize (eM l 6 [] (aI l [] (aN l bQ ⟨0, 0, 1⟩)).2).2 = s7 at hon7 hr ⊢
   have hm7 : (25 : Int) - (30 : Nat) ≤ s7.nodes := by have := hon7.2; simp only at this; omega
   have hno := fj T.fin T.take 30
   have hon8 := cf T.fin hno hon7.1 hm7
   have hcnt := dA T.fin hno (kz T.fin T.take 30) hon7.1 hm7
   have hk : eI (az l (cE l 30) s7).1 := mO (tR l 30) 30 [] _ (by rw [eI]; trivial)
   have h8 : (az l (cE l 30) s7).2.bad = 0 := by
    split at hr
    ·exact absurd hr (bu (by decide) _)
    ·exact hr
   refine vD hk ?_
   have h1 := (hcnt h8).2
   have h2 := hon8.1.2.2.2.2 h8
   have h3 := hon7.2
   simp only at h3
   omega
  ·rw [M_ hr] at h
   exact absurd h hr
 ·rw [M_ h0] at h
  exact absurd h h0
theorem qX : ∀ (f : Nat) (l : List UInt8) (a : Int) (out : List aZ), out.length ≤ 2000 → (dS f l a out).1.length ≤ 2001
 | 0, _, _, _, _ => by simp [dS]
 | f + 1, l, a, out, h => by
  by_cases hl : l = []
  ·subst hl; rw [qq]; simp; omega
  ·by_cases ho : out.length = 2000
   ·rw [nV hl ho]; simp
   ·by_cases he : (bC l).2.2 = 0
    ·rw [nU hl ho he]
     exact qX f _ _ _ (by simp; omega)
    ·rw [qp hl ho he]; simp
theorem x_ (s) : (cd s).1.length ≤ 2001 := by
 unfold cd
 split
 ·simp
 ·split
  ·simp
  ·exact qX _ _ _ _ (by simp)
def gV (r : lp) (ks : List Pc) : List TP := [.key bQ] ++ ([.nam r.name] ++ (dD r.params ++ kO ks))
def eO (r : lp) (ks : List Pc) : List UInt8 := du r ++ (bs r.params ++ ([123, 10] ++ (qJ ks [32, 32] ++ [125, 10])))
structure sQ (r : lp) (ks : List Pc) : Prop where
 nodes : r.nodes = bV 0 (.row 0 [] ks)
 kids : et ks
 cnt : 1 + cn ks ≤ 24
 name : gl r.name
 prms : mL r.params
 cost : aB (gV r ks) ≤ 2000
theorem qY {n} (h0 : -9223372036854775807 ≤ n) (h1 : n ≤ 9223372036854775807) : bB (Lib.itoa n) (kf n) cF := by
 unfold kf
 by_cases hn : n < 0
 ·rw [M_ hn]
  have h2 := qI (n := -n) (by omega) (by omega)
  have hi : Lib.itoa (-n) = decDigits (-n).toNat := by unfold Lib.itoa; rw [K_ (by omega)]
  have he : Lib.itoa n = [45] ++ Lib.itoa (-n) := by
   rw [hi]
   unfold Lib.itoa
   rw [M_ hn, show n.natAbs = (-n).toNat by omega]
   rfl
  obtain ⟨c, t, hct⟩ := m_ (show Lib.itoa (-n) ≠ [] by rw [hi]; exact lU _)
  have hc := gD (-n).toNat c (by rw [← hi, hct]; simp)
  rw [he]
  exact (cI (c := 45) rfl (by decide)).sign h2 hct (by rintro rfl; exact absurd hc (by decide))
 ·rw [K_ hn]
  exact qI (by omega) h1
theorem x' {p} (h : qU p) : bB (mZ p) (iy p) Any := by
 have h1 : bB ([59] ++ [10]) ([.sgn ⟨#[59]⟩] ++ []) Any := (cI (c := 59) rfl (by decide)).sign (cu [10] (by simp)) rfl (by decide)
 have h2 : bB (Lib.itoa p.n ++ ((if p.scaled then [32, 115, 99, 97, 108, 101, 100] else []) ++ ([59] ++ [10]))) (kf p.n ++ ((if p.scaled = true then [.key b9] else []) ++ ([.sgn ⟨#[59]⟩] ++ []))) Any := by
  cases p.scaled with
  | true => exact ((qY h.2.1 h.2.2).word (bR [32] (by simp [cp]) ((dY (s := b9) (by simp [aU])).word h1 rfl (by decide))) rfl (by decide)).cast (by simp [dh, b9]) rfl
  | false => exact ((qY h.2.1 h.2.2).word h1 rfl (by decide)).cast (by simp) rfl
 have h3 := (gh h.1.1).word (bR [32] (by simp [cp]) (xN.then_ (bR [32] (by simp [cp]) h2))) rfl (by decide)
 have h4 := (dY (s := dr) (by simp [aU])).word (bR [32] (by simp [cp]) h3) rfl (by decide)
 exact h4.cast (by unfold mZ; simp [dh, dr]) (by unfold iy; simp)
theorem ot : ∀ ps : List ia, (∀ p, p ∈ ps → qU p) → bB (bs ps) (dD ps) Any
 | [], _ => cu [] (by simp)
 | p :: ps, h => ((x' (h p (by simp))).then_ (ot ps (fun q hq => h q (by simp [hq])))).cast (by simp [bs]) (by simp [dD])
theorem ya {r ks} (h : sQ r ks) : bB (eO r ks) (gV r ks) Any := by
 have hb : cp [32, 32] := by simp [cp]
 have h1 : bB ([123] ++ ([10] ++ (qJ ks [32, 32] ++ ([] ++ [125, 10])))) ([.sgn ⟨#[123]⟩] ++ (dO ks ++ [.sgn ⟨#[125]⟩])) Any := (cI (c := 123) rfl (by decide)).sign (bR [10] (by simp [cp]) (((qL (SizeOf.sizeOf ks + 1)).2 ks (by omega) h.kids _ hb).then_ (kK (ind := []) (by simp [cp])))) rfl (by decide)
 have h2 := (gh h.name.1).word (bR [10] (by simp [cp]) ((ot r.params h.prms.2.2).then_ h1)) rfl (by decide)
 have h3 := (dY (s := bQ) (by simp [aU])).word (bR [32] (by simp [cp]) h2) rfl (by decide)
 exact h3.cast (by unfold eO du; simp [dh, bQ]) (by unfold gV kO; simp)
theorem zC {r ks} (h : sQ r ks) (hs : (eO r ks).length ≤ 8192) : ∃ ts a, qH (gV r ks) ts ∧ cd (str (eO r ks)) = (ts ++ [⟨0, ⟨#[]⟩, 0, a⟩], 0, 0) := by
 have hl := ya h
 have hc := h.cost
 have hlen := hl.len
 obtain ⟨ts, a, g1, g2⟩ := hl.lex [] trivial ((eO r ks).length + 1 - aB (gV r ks)) 0 [] (by simpa using hc)
 refine ⟨ts, a, g1, ?_⟩
 obtain ⟨f, hf⟩ : ∃ f, (eO r ks).length + 1 - aB (gV r ks) = f + 1 := ⟨(eO r ks).length - aB (gV r ks), by omega⟩
 rw [show (eO r ks).length + 1 - aB (gV r ks) + aB (gV r ks) = (eO r ks).length + 1 by omega, hf, wH, List.append_nil] at g2
 unfold cd
 rw [K_ (by rw [rI]; omega), jM, tj _ 0 hl.vd, K_ (by decide), rI]
 exact g2
section
variable {l : List aZ} {i j n : Int}
theorem yb {p had ps} (hw : qU p) (hn : p.name ∉ had) (h : MA l (iy p ++ ps) i j) : cj l dr ⟨i, 0, n⟩ = true ∧ ∃ k, kr l had (cK ⟨i, 0, n⟩) = (p, ⟨k, 0, n⟩) ∧ MA l ps k j := by
 have h : MA l (.key dr :: .nam p.name :: .sgn ⟨#[58, 61]⟩ :: (kf p.n ++ ((if p.scaled = true then [.key b9] else []) ++ (.sgn ⟨#[59]⟩ :: ps)))) i j := by
  have e : iy p ++ ps = .key dr :: .nam p.name :: .sgn ⟨#[58, 61]⟩ :: (kf p.n ++ ((if p.scaled = true then [.key b9] else []) ++ (.sgn ⟨#[59]⟩ :: ps))) := by unfold iy; simp
  rwa [e] at h
 obtain ⟨h1, h2⟩ := aM (by simp) h
 obtain ⟨h3, h4⟩ := aM (by simp) h2
 obtain ⟨h5, h6⟩ := aM (by simp) h4
 refine ⟨by unfold cj; rw [h1.2, show dE dr dr = true by decide]; rfl, ?_⟩
 have hN : ∃ k q, aj l ⟨#[45]⟩ ⟨i + 1 + 1 + 1, 0, n⟩ = (q, ⟨k, 0, n⟩) ∧ kq l q ⟨k, 0, n⟩ = (p.n, ⟨k + 1, 0, n⟩) ∧ MA l ((if p.scaled = true then [.key b9] else []) ++ (.sgn ⟨#[59]⟩ :: ps)) (k + 1) j := by
  have hp : ∀ (k m : Int) (q : Bool), (TP.num m).At (ah l k) → (if q = true then wrap64 (-m) else m) = p.n → kq l q ⟨k, 0, n⟩ = (p.n, ⟨k + 1, 0, n⟩) := fun k m q hk he => by
   have hd : (if (⟨k, 0, n⟩ : RS).bad = 0 ∧ (ah l (⟨k, 0, n⟩ : RS).at_).kind ≠ 2 then bO 11 ⟨k, 0, n⟩ else (⟨k, 0, n⟩ : RS)) = ⟨k, 0, n⟩ := K_ (fun hc => hc.2 hk.1)
   unfold kq
   rw [hd]
   simp only [if_true]
   rw [hk.2, he]
   rfl
  unfold kf at h6
  by_cases h0 : p.n < 0
  ·rw [M_ h0] at h6
   obtain ⟨h7, h8⟩ := aM (by simp) h6
   obtain ⟨h9, h10⟩ := aM (by simp) h8
   have a1 := hw.2.1
   refine ⟨_, true, iO h7, hp _ (-p.n) true h9 ?_, h10⟩
   rw [M_ rfl, show - -p.n = p.n by omega]
   exact IntWalk.wrap64_in _ ⟨by omega, by omega⟩
  ·rw [K_ h0] at h6
   obtain ⟨h7, h8⟩ := aM (by simp) h6
   refine ⟨_, false, kM (lA (by rw [h7.1]; decide)) (o5 ?_), hp _ p.n false h7 (K_ (by decide)), h8⟩
   rw [mG (by rw [h7.1]; decide)]
   decide
 obtain ⟨k, q, h7, h8, h9⟩ := hN
 have hS : ∃ k2, aj l b9 ⟨k + 1, 0, n⟩ = (p.scaled, ⟨k2, 0, n⟩) ∧ MA l (.sgn ⟨#[59]⟩ :: ps) k2 j := by
  by_cases hs : p.scaled = true
  ·rw [M_ hs] at h9
   obtain ⟨h10, h11⟩ := aM (by simp) h9
   exact ⟨_, by rw [hs]; exact cV h10.2, h11⟩
  ·rw [K_ hs] at h9
   exact ⟨_, by rw [E_ hs]; exact j' (aM (by simp) h9).1 (by decide) (by decide), h9⟩
 obtain ⟨k2, h10, h11⟩ := hS
 obtain ⟨h12, h13⟩ := aM (by simp) h11
 refine ⟨_, ?_, h13⟩
 show kr l had ⟨i + 1, 0, n⟩ = _
 unfold kr
 simp only
 rw [fa h3 hw.1 (o6 hn)]
 simp only
 rw [eH h5, h7]
 simp only
 rw [h8]
 simp only
 rw [h10]
 simp only
 rw [eH h12]
theorem ou : ∀ (qs : List ia) (f : Nat) (ps : List ia) (rest : List TP) (i : Int), mL (ps ++ qs) → qs.length ≤ f → MA l (dD qs ++ .sgn ⟨#[123]⟩ :: rest) i j → ∃ k, eM l f ps ⟨i, 0, n⟩ = (ps ++ qs, ⟨k, 0, n⟩) ∧ MA l (.sgn ⟨#[123]⟩ :: rest) k j
 | [], f, ps, rest, i, _, _, h => by
  have h : MA l (.sgn ⟨#[123]⟩ :: rest) i j := h
  refine ⟨i, ?_, h⟩
  rw [List.append_nil]
  have hk : cj l dr ⟨i, 0, n⟩ = false := o5 (by rw [mG (by rw [(aM (by simp) h).1.1]; decide)]; decide)
  cases f with
  | zero => rfl
  | succ f => rw [eM, K_ (by rw [hk]; decide)]
 | q :: qs, f, ps, rest, i, hw, hf, h => by
  obtain ⟨f, rfl⟩ : ∃ g, f = g + 1 := ⟨f - 1, by simp at hf; omega⟩
  have h : MA l (iy q ++ (dD qs ++ .sgn ⟨#[123]⟩ :: rest)) i j := by
   have e : dD (q :: qs) ++ .sgn ⟨#[123]⟩ :: rest = iy q ++ (dD qs ++ .sgn ⟨#[123]⟩ :: rest) := by simp [dD]
   rwa [e] at h
  obtain ⟨w1, w2, w3⟩ := hw
  have hn : q.name ∉ ps.map (·.name) := fun hc => by
   rw [f_] at w2
   exact (List.nodup_append.1 w2).2.2 q.name hc q.name (by simp) rfl
  obtain ⟨h1, k, h2, h3⟩ := yb (n := n) (w3 q (by simp)) hn h
  have h4 : ¬ ps.length = 4 := by simp at w1; omega
  obtain ⟨k2, h5, h6⟩ := ou qs f (ps ++ [q]) rest k ⟨by simpa using w1, by simpa using w2, fun p hp => w3 p (by simpa using hp)⟩ (by simp at hf; omega) h3
  refine ⟨k2, ?_, h6⟩
  rw [eM, M_ h1, K_ h4, h2, h5, o_]
  rfl
theorem vE {r ks} (h : sQ r ks) (hm : MA l (gV r ks) 0 j) (he : (ah l j).kind = 0) : gO l = (r.name, r.params, ks, ⟨j, 0, 1 + cn ks⟩) := by
 have hm : MA l (.key bQ :: .nam r.name :: (dD r.params ++ kO ks)) 0 j := hm
 obtain ⟨h1, h2⟩ := aM (by simp) hm
 obtain ⟨h3, h4⟩ := aM (by simp) h2
 obtain ⟨k, h5, h6⟩ := ou (n := 1) r.params 6 [] (dO ks ++ [.sgn ⟨#[125]⟩]) _ h.prms (by have := h.prms.1; omega) h4
 have hc := h.cnt
 have h7 : az l (cE l 30) ⟨k, 0, 1⟩ = (ks, ⟨j, 0, 1 + cn ks⟩) := mI (fun p hp => by
  have h8 := mJ (N := 30) ks (by omega) h.kids p hp
  exact sN 30 p h8.1 h8.2) h6 (by omega) (by decide)
 unfold gO
 simp only
 rw [xR h1.2, fa h3 h.name (by rfl)]
 simp only
 rw [h5]
 simp only
 rw [h7]
 simp only
 rw [K_ (fun hc => hc.2 he)]
 rfl
end
theorem yd {r ks} (h : sQ r ks) (hs : (eO r ks).length ≤ 8192) : cB (str (eO r ks)) = (r, 0, 0) := by
 obtain ⟨ts, a, h1, h2⟩ := zC h hs
 have h3 : MA (ts ++ [⟨0, ⟨#[]⟩, 0, a⟩]) (gV r ks) 0 (0 + ts.length) := zO h1 (fun j hj => by rw [Int.zero_add]; exact uy ts _ j hj)
 have h4 := vE h h3 (by rw [Int.zero_add, uz])
 unfold cB
 simp only [h2]
 rw [K_ (by decide), h4]
 simp only
 rw [K_ (by decide), ← h.nodes]
theorem ye {r ks} (hs : 8192 < (eO r ks).length) : (cB (str (eO r ks))).2.1 = 2 := by
 have hc : cd (str (eO r ks)) = ([], 2, 0) := by unfold cd; rw [M_ (by rw [rI]; exact hs)]
 unfold cB
 simp only [hc]
 rw [M_ (by decide)]
theorem yf {s} (h : (cB s).2.1 = 0) : ∃ ks, sQ (cB s).1 ks := by
 have hsh := sP h
 unfold cB at h hsh ⊢
 simp only at h hsh ⊢
 by_cases h0 : (cd s).2.1 = 0
 ·rw [K_ (by omega)] at h hsh ⊢
  have T := oQ h0
  have W := zv h0
  have hlen := x_ s
  by_cases hr : (gO (cd s).1).2.2.2.bad = 0
  ·rw [K_ (by omega)] at hsh ⊢
   generalize (cd s).1 = l at T W hlen hr hsh ⊢
   have hin0 : fE l ⟨0, 0, 1⟩ := ⟨by show (0 : Int) ≤ 0; omega, by show (0 : Int) < _; have := T.fin.1; omega, by show (0 : Int) ≤ 1; omega, by show (1 : Int) ≤ 27; omega, fun _ => by show (1 : Int) ≤ 24; omega⟩
   have hon4 := bg T.fin bQ (by decide) hin0
   have hon5 := hon4.trans (ck T.fin [] hon4.1)
   have hon7 := hon5.trans (lq T.fin 6 [] _ hon5.1)
   have hno := fj T.fin T.take 30
   have hgd := tP T.fin T.take W 30
   have hm7 : (25 : Int) - (30 : Nat) ≤ (eM l 6 [] (aI l [] (aN l bQ ⟨0, 0, 1⟩)).2).2.nodes := by have := hon7.2; simp only at this; omega
   have hon8 := cf T.fin hno hon7.1 hm7
   obtain ⟨ks, hks⟩ := nm_ ((gO l).2.2.1)
   obtain ⟨nm, hnm⟩ := nm_ ((gO l).1)
   obtain ⟨ps, hps⟩ := nm_ ((gO l).2.1)
   rw [hks] at hsh
   rw [hnm, hps, hks]
   have h8 : (az l (cE l 30) (eM l 6 [] (aI l [] (aN l bQ ⟨0, 0, 1⟩)).2).2).2.bad = 0 := by
    unfold gO at hr
    simp only at hr
    split at hr
    ·exact absurd hr (bu (by decide) _)
    ·exact hr
   have h9 := ke T.fin hno hgd hon7.1 hm7 h8
   have h10 := xX W 6 [] _ ⟨by simp, by simp, fun p hp => by simp at hp⟩ h9.1
   have h11 := kP W h10.2.1
   have h12 := gM (x := bQ) (by decide) h11.1
   have e1 : (az l (cE l 30) (eM l 6 [] (aI l [] (aN l bQ ⟨0, 0, 1⟩)).2).2).1 = ks := hks
   have e2 : (eM l 6 [] (aI l [] (aN l bQ ⟨0, 0, 1⟩)).2).1 = ps := hps
   have e3 : (aI l [] (aN l bQ ⟨0, 0, 1⟩)).1 = nm := hnm
   rw [e1] at h9
   rw [e2] at h10
   rw [e3] at h11
   refine ⟨ks, rfl, h9.2.1, ?_, h11.2.1, h10.1, ?_⟩
   ·have := hsh.most
    rw [dW, cP] at this
    exact this
   ·have a1 := h9.2.2
    have a2 := h10.2.2
    have a3 : (aI l [] (aN l bQ ⟨0, 0, 1⟩)).2.at_ = (aN l bQ ⟨0, 0, 1⟩).at_ + 1 := by rw [h11.2.2.2]; rfl
    have a4 : (aN l bQ ⟨0, 0, 1⟩).at_ = 0 + 1 := h12.2
    have a5 := hon8.1.2.1
    unfold gV
    simp only [bo, aB, TP.cost, dD, List.flatMap_nil] at a2 ⊢
    omega
  ·rw [M_ hr] at h
   exact absurd h hr
 ·rw [M_ h0] at h
  exact absurd h h0
section
variable {l : List Nd}
theorem vF (k us kids) : f8 ⟨k, kids, us, ⟨#[]⟩, [], dP⟩ = o4 k us := rfl
def qZ (l : List Nd) (nd : Int → List UInt8 → WS → WS) (p : Pc) : Prop := ∀ (b : Int) (ind out : List UInt8) (L : Int), fJ (bf l) b (bV b p) → b + cP p ≤ l.length → (cP p : Int) ≤ L + 1 → nd b ind ⟨out, L, false⟩ = ⟨out ++ pT p ind, L + 1 - cP p, false⟩
theorem yg (p) : 1 ≤ cP p := by cases p <;> simp only [cP] <;> omega
theorem jt {nd n} : ∀ (ps : List Pc) (b : Int) (ind out : List UInt8) (L : Int), (∀ p, p ∈ ps → qZ l nd p) → fJ (bf l) b (aJ b ps).1 → n < b → b + cn ps ≤ l.length → (cn ps : Int) ≤ L →
  dK n l.length (fun j => nd j ind) (aJ b ps).2 ⟨out, L, false⟩ = ⟨out ++ qJ ps ind, L - cn ps, false⟩
 | [], b, ind, out, L, _, _, _, _, _ => by
  rw [bM, qJ, cn, dK, List.append_nil]
  simp
 | p :: ps, b, ind, out, L, hw, hs, hn, hl, hL => by
  rw [aX] at hs ⊢
  have h1 := fJ.app hs
  rw [cn] at hl hL ⊢
  have h0 := yg p
  have hlen := dW b p
  have h2 := hw p (by simp) b ind out (L - 1) h1.1 (by omega) (by omega)
  have h3 := h1.2
  rw [hlen] at h3
  have h4 := jt (n := n) ps (b + cP p) ind (out ++ pT p ind) (L - cP p) (fun q hq => hw q (by simp [hq])) h3 (by omega) (by omega) (by omega)
  have hc : ¬ (b ≤ n ∨ (l.length : Int) ≤ b ∨ L - 1 < 0 ∨ false = true) := by
   rintro (h | h | h | h)
   ·omega
   ·omega
   ·omega
   ·exact absurd h (by decide)
  rw [dK, K_ hc]
  simp only
  rw [h2, hlen, show L - 1 + 1 - (cP p : Int) = L - cP p by omega, h4, qJ, o_]
  congr 1
  omega
theorem sR (N) : ∀ p, cP p ≤ N → jw p → qZ l (aS l N) p := by
 induction N with
 | zero => intro p h; have := yg p; omega
 | succ N ih =>
  intro p hN hw b ind out L hs hl hL
  have hk : ∀ (n : Int) (ps : List Pc) (b : Int) (ind out : List UInt8) (L : Int), cn ps ≤ N → et ps → fJ (bf l) b (aJ b ps).1 → n < b → b + cn ps ≤ l.length → (cn ps : Int) ≤ L → dK n l.length (fun j => aS l N j ind) (aJ b ps).2 ⟨out, L, false⟩ = ⟨out ++ qJ ps ind, L - cn ps, false⟩ := fun n ps b ind out L h1 h2 h3 h4 h5 h6 =>
   jt ps b ind out L (fun p hp => have h7 := mJ ps h1 h2 p hp; ih p h7.1 h7.2) h3 h4 h5 h6
  rw [aS]
  cases p with
  | row k us kids =>
   rw [bV] at hs
   have h1 := hs.cons
   rw [jw] at hw
   rw [cP] at hN hl hL ⊢
   have hk4 : ¬ k = 4 ∧ ¬ k = 3 := by rcases hw.1 with ⟨h | h, _⟩ | ⟨h, _⟩ <;> omega
   unfold kW
   rw [h1.1]
   simp only [K_ hk4.1, K_ hk4.2]
   unfold bU
   rw [h1.1]
   simp only [bG]
   rw [hk b kids (b + 1) (ind ++ [32, 32]) _ L (by omega) hw.2 h1.2 (by omega) (by omega) (by omega), vF, pT]
   simp only [o_]
   congr 1
   omega
  | choice e x y =>
   rw [bV] at hs
   obtain ⟨h1, h2⟩ := hs.cons
   obtain ⟨h3, h4⟩ := h2.cons
   have h5 := fJ.app h4
   obtain ⟨h6, h7⟩ := h5.2.cons
   rw [jw] at hw
   rw [cP] at hN hl hL ⊢
   have hx := vC x (b + 2)
   have hA := hk (b + 1) x (b + 2) (ind ++ [32, 32]) (out ++ mY ⟨4, [b + 1, b + 2 + (aJ (b + 2) x).1.length], [], ⟨#[]⟩, [], e⟩ ind) (L - 2) (by omega) hw.2.1 (by have := h5.1; rwa [show b + 1 + 1 = b + 2 by omega] at this) (by omega) (by omega) (by omega)
   rw [hx] at h1 h6 h7 hA
   have e6 : b + 1 + 1 + (cn x : Int) = b + 2 + cn x := by omega
   have e7 : b + 1 + 1 + (cn x : Int) + 1 = b + 3 + cn x := by omega
   rw [e6] at h6
   rw [e7] at h7
   unfold kW
   rw [h1]
   simp only [if_true]
   unfold gF
   have hno : ¬ cr ⟨4, [b + 1, b + 2 + (cn x : Int)], [], ⟨#[]⟩, [], e⟩ b l.length L := by
    unfold cr k0 k1
    simp only [P_, b_, List.getD_cons_zero, List.getD_cons_succ]
    omega
   rw [K_ hno]
   have ek0 : k0 ⟨4, [b + 1, b + 2 + (cn x : Int)], [], ⟨#[]⟩, [], e⟩ = b + 1 := rfl
   have ek1 : k1 ⟨4, [b + 1, b + 2 + (cn x : Int)], [], ⟨#[]⟩, [], e⟩ = b + 2 + cn x := rfl
   have hKA : bU l (aS l N) (b + 1) (ind ++ [32, 32]) ⟨out ++ mY ⟨4, [b + 1, b + 2 + (cn x : Int)], [], ⟨#[]⟩, [], e⟩ ind, L - 2, false⟩ = ⟨out ++ mY ⟨4, [b + 1, b + 2 + (cn x : Int)], [], ⟨#[]⟩, [], e⟩ ind ++ qJ x (ind ++ [32, 32]), L - 2 - cn x, false⟩ := by
    unfold bU
    rw [h3]
    exact hA
   unfold f'
   rw [ek0, ek1, h6]
   simp only [bG]
   rw [hKA]
   simp only
   by_cases hy : y = []
   ·subst hy
    rw [bM]
    simp only [if_true]
    rw [pT]
    unfold mY
    simp only [cn, List.isEmpty_nil, if_true, o_, List.nil_append]
    congr 1
    omega
   ·have hne : (aJ (b + 3 + (cn x : Int)) y).2 ≠ [] := by
     obtain ⟨q, qs, rfl⟩ := m_ hy
     rw [aX]
     simp
    rw [K_ hne]
    have hKB : ∀ out2, bU l (aS l N) (b + 2 + cn x) (ind ++ [32, 32]) ⟨out2, L - 2 - cn x, false⟩ = ⟨out2 ++ qJ y (ind ++ [32, 32]), L - 2 - cn x - cn y, false⟩ := fun out2 => by
     unfold bU
     rw [h6]
     exact hk (b + 2 + cn x) y (b + 3 + cn x) (ind ++ [32, 32]) out2 (L - 2 - cn x) (by omega) hw.2.2 h7 (by omega) (by omega) (by omega)
    rw [hKB]
    simp only
    rw [pT, K_ (by simpa using hy)]
    unfold mY
    simp only [o_]
    congr 1
    omega
  | step nm al =>
   rw [bV] at hs
   have h1 := hs.cons
   rw [cP] at hL ⊢
   unfold kW
   rw [h1.1]
   simp only [show ¬ ((3 : Int) = 4) by decide, if_false, if_true, bG]
   rw [pT]
   congr 1
   omega
end
theorem yh {r ks} (h : sQ r ks) : cb r = (eO r ks, true) := by
 have hlen : r.nodes.length = 1 + cn ks := by rw [h.nodes, dW, cP]
 have hc := h.cnt
 have hp := h.prms.1
 have hs := mP r.nodes
 have hs0 : fJ (bf r.nodes) 0 (bV 0 (.row 0 [] ks)) := by rw [← h.nodes]; exact hs
 rw [bV] at hs0
 obtain ⟨h1, h2⟩ := hs0.cons
 have h3 := jt (l := r.nodes) (nd := aS r.nodes 24) (n := 0) ks (0 + 1) [32, 32] (du r ++ bs r.params ++ [123, 10]) r.nodes.length (fun p hp => by
  have h4 := mJ (N := 24) ks (by omega) h.kids p hp
  exact sR 24 p h4.1 h4.2) h2 (by omega) (by omega) (by omega)
 unfold cb
 rw [K_ (by omega)]
 unfold qi bU
 rw [h1]
 simp only at h3 ⊢
 rw [h3]
 simp [bG, eO]
theorem vG {s} (h : (cB s).2.1 = 0) : ∀ x, x ∈ (cB s).1.nodes → x.units.length ≤ 5 := by
 obtain ⟨ks, hr⟩ := yf h
 rw [hr.nodes]
 have hP : ∀ N : Nat, (∀ p : Pc, SizeOf.sizeOf p < N → jw p → ∀ b, ∀ x, x ∈ bV b p → x.units.length ≤ 5) ∧ ∀ ps : List Pc, SizeOf.sizeOf ps < N → et ps → ∀ b, ∀ x, x ∈ (aJ b ps).1 → x.units.length ≤ 5 := by
  intro N
  induction N with
  | zero => exact ⟨fun p h => by omega, fun ps h => by omega⟩
  | succ N ih =>
   refine ⟨fun p h hw b x hx => ?_, fun ps h hw b x hx => ?_⟩
   ·cases p with
    | row k us kids =>
     rw [jw] at hw
     rw [bV] at hx
     rcases List.mem_cons.1 hx with rfl | hx
     ·rcases hw.1 with ⟨_, rfl⟩ | ⟨_, hu⟩
      ·exact h_ _
      ·exact hu.2.1
     ·exact ih.2 kids (by simp at h; omega) hw.2 _ x hx
    | choice e a c =>
     rw [jw] at hw
     simp at h
     rw [bV] at hx
     rcases List.mem_cons.1 hx with rfl | hx
     ·exact h_ _
     ·rcases List.mem_cons.1 hx with rfl | hx
      ·exact h_ _
      ·rcases G_ hx with hx | hx
       ·exact ih.2 a (by omega) hw.2.1 _ x hx
       ·rcases List.mem_cons.1 hx with rfl | hx
        ·exact h_ _
        ·exact ih.2 c (by omega) hw.2.2 _ x hx
    | step nm al =>
     rw [bV] at hx
     simp at hx
     subst hx
     exact h_ _
   ·cases ps with
    | nil => rw [bM] at hx; simp at hx
    | cons p ps =>
     rw [et] at hw
     simp at h
     rw [aX] at hx
     rcases G_ hx with hx | hx
     ·exact ih.1 p (by omega) hw.1 _ x hx
     ·exact ih.2 ps (by omega) hw.2 _ x hx
 exact fun x hx => (hP (SizeOf.sizeOf (Pc.row 0 [] ks) + 1)).1 (.row 0 [] ks) (by omega) (by rw [jw]; exact ⟨.inl ⟨.inl rfl, rfl⟩, hr.kids⟩) 0 x hx
theorem zD {s} (h : (cB s).2.1 = 0) : lb (cB s).1 = cb (cB s).1 ∧ (cb (cB s).1).2 = true ∧ (8192 < (cb (cB s).1).1.length → kD (cB s).1 = false) ∧
  ((cb (cB s).1).1.length ≤ 8192 → kD (cB s).1 = true ∧ cB (gG (cB s).1) = ((cB s).1, 0, 0)) := by
 have hu := vG h
 obtain ⟨ks, hr⟩ := yf h
 obtain ⟨r, hrr⟩ := nm_ ((cB s).1)
 rw [hrr] at hu hr ⊢
 have ht := yh hr
 have h1 := vb (r := r) (fun x hx => by have := hu x hx; omega)
 rw [ht] at h1 ⊢
 refine ⟨Prod.ext (h1.2 rfl) h1.1, rfl, fun hl => ?_, fun hl => ?_⟩
 ·refine E_ (fun hc => ?_)
  have h2 := ((j1 r).1 hc).2.1
  rw [ht, ye hl] at h2
  exact absurd h2 (by decide)
 ·have h2 := yd hr hl
  have hm : kD r = true := (j1 r).2 ⟨by rw [ht], by rw [ht, h2], by rw [ht, h2]⟩
  refine ⟨hm, ?_⟩
  unfold gG
  rw [M_ hm, ht]
  exact h2
open Classical in
theorem yj {P Q : Nat → Prop} (o n : Int) (nm : ByteArray) (ks : List Ex) (o' n' : Int) (nm' : ByteArray) (ks' : List Ex) (A : Option Addr) (c : Nat) (B : Option Addr) (d : Nat) (w : World) (ha : cx P w (.mk o n nm ks) A c) (hb : cx Q w (.mk o' n' nm' ks') B d)
  (ih : ∀ i (hi : i < ks.length) (hj : i < ks'.length) A' c' B' d' W, cx P W ks[i] A' c' → cx Q W ks'[i] B' d' → Calls prog 64 #[cM ks[i] A' c', cM ks'[i] B' d'] W fun r w' => r = .returned (.bool (decide (ks[i] = ks'[i]))) ∧ Below W.heap.size W w') :
  Calls prog 64 #[.agg #[.int .i64 o, .int .i64 n, .string nm, .slice A ks.length c], .agg #[.int .i64 o', .int .i64 n', .string nm', .slice B ks'.length d]] w fun r w' => r = .returned (.bool (decide (Ex.mk o n nm ks = .mk o' n' nm' ks'))) ∧ Below w.heap.size w w' := by
 have hra : aw dZ P w A c ks := ⟨ha.1, ha.2⟩
 have hrb : aw dZ Q w B d ks' := ⟨hb.1, hb.2⟩
 have hxm := (hra.2 [] (by simp)).1
 have hym := (hrb.2 [] (by simp)).1
 have hxc := hra.1
 have hyc := hrb.1
 obtain ⟨R, hR⟩ := nm_ (decide (Ex.mk o n nm ks = .mk o' n' nm' ks'))
 rw [hR]
 obtain ⟨m, hm⟩ := nm_ ks.length
 obtain ⟨m', hm'⟩ := nm_ ks'.length
 have H := hid (⟨hra, hrb, ih, hm, hm', hR⟩ : _ ∧ _ ∧ _ ∧ _ ∧ _ ∧ _)
 rw [hm] at hxm hxc ⊢
 rw [hm'] at hym hyc ⊢
 clear hra hrb ha hb ih hm hm' hR
 obtain ⟨w0, hw0⟩ := nm_ ((w.alloc (.cells #[.int .i64 o, .int .i64 n, .string nm, .slice A m c] 41)).alloc (.cells #[.int .i64 o', .int .i64 n', .string nm', .slice B m' d] 41))
 have hal : Below w.heap.size w w0 := hw0 ▸ ((J_ _ _).alloc le_ _).alloc (by simp) _
 have hx : w0.heap[w.heap.size]? = some (.cells #[.int .i64 o, .int .i64 n, .string nm, .slice A m c] 41 (0, 0)) := hw0 ▸ (Below.heap_alloc _ _ _ (by simp)).trans (I_ _ _)
 have hy : w0.heap[w.heap.size + 1]? = some (.cells #[.int .i64 o', .int .i64 n', .string nm', .slice B m' d] 41 (0, 0)) := by
  have h := I_ (w.alloc (.cells #[.int .i64 o, .int .i64 n, .string nm, .slice A m c] 41)) (.cells #[.int .i64 o', .int .i64 n', .string nm', .slice B m' d] 41)
  rw [hw0] at h
  simpa using h
 have HW0 := hid hw0
 have HX := hid hx
 have HY := hid hy
 have HAL := hid hal
 obtain ⟨x0, x1, x2, x3⟩ := nS hx
 obtain ⟨y0, y1, y2, y3⟩ := nS hy
 have hlx := ab hx
 have hly := ab hy
 clear hx hy hw0 hal
 by_cases he : o = o' ∧ n = n' ∧ nm = nm' ∧ m = m'
 ·obtain ⟨rfl, rfl, rfl, rfl⟩ := he
  go_enter func64, ntmps64
  go_wp2_with fail
  rw [HW0.out]
  go_loopg [5] (m + 1) (fun k s5 w' => ∃ j : Nat, s5 = .int .i64 j ∧ j ≤ m ∧ m - j < k ∧ ks.take j = ks'.take j ∧ Below w0.heap.size w0 w')
  case atStart => exact ⟨0, rfl, by omega, by omega, by simp, J_ _ _⟩
  case round =>
   obtain ⟨j, rfl, hj, hjk, htk, hbw⟩ := hrel
   obtain ⟨gk, rfl⟩ := pk_ gk 1 (by omega)
   have HBW := hid hbw
   have HXr := bl_ hbw HX
   have HYr := bl_ hbw HY
   clear x0 x1 x2 x3 y0 y1 y2 y3 hlx hly hbw
   obtain ⟨x0, x1, x2, x3⟩ := nS HXr.out
   obtain ⟨y0, y1, y2, y3⟩ := nS HYr.out
   have hlx := ab HXr.out
   have hly := ab HYr.out
   by_cases hlt : j < m
   ·have hix : j < ks.length := by rw [H.out.2.2.2.1]; exact hlt
    have hiy : j < ks'.length := by rw [H.out.2.2.2.2.1]; exact hlt
    have hS : Below w.heap.size w wr := HAL.out.trans (HBW.out.mono HAL.out.size)
    obtain ⟨ad, rfl⟩ := dX H.out.1 j hix
    obtain ⟨bd, rfl⟩ := dX H.out.2.1 j hiy
    obtain ⟨A', c', ⟨p0, p1, p2, p3⟩, hux, hul⟩ := j2 (H.out.1.below hS) j hix
    obtain ⟨B', d', ⟨q0, q1, q2, q3⟩, hvx, hvl⟩ := j2 (H.out.2.1.below hS) j hiy
    have HCALL : Hid (∀ W, Below wr.heap.size wr W → _) := hid (fun W hW => H.out.2.2.1 j hix hiy A' c' B' d' W (hux.below hW) (hvx.below hW))
    obtain ⟨t, ht⟩ := nm_ (decide (ks[j] = ks'[j]))
    simp only [ht] at HCALL
    have HT := hid (⟨hix, hiy, ht, htk⟩ : ∃ (h1 : j < ks.length) (h2 : j < ks'.length), decide (ks[j] = ks'[j]) = t ∧ ks.take j = ks'.take j)
    obtain ⟨x, hxx⟩ := nm_ (ks[j])
    obtain ⟨y, hyy⟩ := nm_ (ks'[j])
    rw [hxx] at p0 p1 p2 p3
    rw [hyy] at q0 q1 q2 q3
    simp only [hxx, hyy] at HCALL
    have hz : (j : Int) < m := by omega
    have hz0 : (0 : Int) ≤ j := by omega
    have hzc : (j : Int) < c := by omega
    have hzd : (j : Int) < d := by omega
    clear hux hvx hxx hyy ht htk hS hix hiy
    go_wp2_with fail
    go_cut [6] (fun s6 wx => s6 = .bool t ∧ Below wr.heap.size wr wx)
    case first =>
     go_region_with ((go_at_call 64; refine (HCALL.out _ ?_).mono ?_; (first | exact J_ _ _ | exact (J_ _ _).drew); rintro r w5 ⟨rfl, hb5⟩; have HB5 := hid hb5; clear hb5))
     all_goals
      go_wp2_with fail
      go_meet
      exact ⟨rfl, by first | exact HB5.out | exact (J_ _ _).drew.trans HB5.out⟩
    case rest =>
     obtain ⟨rfl, hbx⟩ := hcut
     have HBX := tm_ HBW hbx
     clear hbx
     cases t
     ·have HF : Hid (R = false) := hid (by
       obtain ⟨h1, h2, h3, _⟩ := HT.out
       rw [← H.out.2.2.2.2.2]
       exact V_ (fun e => im h1 h2 (of_decide_eq_false h3) (by injection e)))
      go_wp2_with fail
      go_ret
      exact ⟨by rw [HF.out]; rfl, HAL.out.trans (HBX.out.mono HAL.out.size)⟩
     ·go_wp2_with fail
      go_roundg gk
      case measure => omega
      case rel => exact ⟨j + 1, by go_num, by omega, by omega, by obtain ⟨h1, h2, h3, h4⟩ := HT.out; exact dn h1 h2 h4 (of_decide_eq_true h3), HBX.out⟩
   ·obtain rfl : j = m := by omega
    have HF : Hid (R = true) := hid (by
     rw [← H.out.2.2.2.2.2, eR H.out.2.2.2.1 H.out.2.2.2.2.1 htk rfl]
     exact W_ rfl)
    go_wp2_with fail
    go_ret
    exact ⟨by rw [HF.out]; rfl, HAL.out.trans (HBW.out.mono HAL.out.size)⟩
 ·have HQ : Hid (R = false) := hid (by
   rw [← H.out.2.2.2.2.2]
   exact V_ (fun e => he (by injection e with e1 e2 e3 e4; exact ⟨e1, e2, e3, by rw [← H.out.2.2.2.1, ← H.out.2.2.2.2.1, e4]⟩)))
  have key : (o == o') = false ∨ o = o' ∧ ((n == n') = false ∨ n = n' ∧ ((nm.data.toList == nm'.data.toList) = false ∧ (nm.toList == nm'.toList) = false ∨ nm = nm' ∧ ((m : Int) == m') = false)) := by
   by_cases e1 : o = o'
   ·refine .inr ⟨e1, ?_⟩
    by_cases e2 : n = n'
    ·refine .inr ⟨e2, ?_⟩
     by_cases e3 : nm = nm'
     ·exact .inr ⟨e3, aO (fun e4 => he ⟨e1, e2, e3, by omega⟩)⟩
     ·exact .inl (fH e3)
    ·exact .inl (aO e2)
   ·exact .inl (aO e1)
  rcases key with t1 | ⟨rfl, t1 | ⟨rfl, ⟨t1, t3⟩ | ⟨rfl, t1⟩⟩⟩
  all_goals
   have t2 := gH t1
   clear he
   go_enter func64, ntmps64
   go_wp2_with fail
   rw [HW0.out]
   go_ret
   exact ⟨by rw [HQ.out]; rfl, HAL.out⟩
open Classical in
theorem yk (N : Nat) : ∀ {P Q : Nat → Prop} (e f : Ex) (A : Option Addr) (c : Nat) (B : Option Addr) (d : Nat) (w : World), SizeOf.sizeOf e < N → cx P w e A c → cx Q w f B d →
  Calls prog 64 #[cM e A c, cM f B d] w fun r w' => r = .returned (.bool (decide (e = f))) ∧ Below w.heap.size w w' := by
 induction N with
 | zero => intro P Q e f A c B d w h; omega
 | succ N ih =>
  intro P Q e f A c B d w hN ha hb
  obtain ⟨o, n, nm, ks⟩ := e
  obtain ⟨o', n', nm', ks'⟩ := f
  refine yj o n nm ks o' n' nm' ks' A c B d w ha hb (fun i hi hj A' c' B' d' W h1 h2 => ih _ _ A' c' B' d' W ?_ h1 h2)
  have h1 : SizeOf.sizeOf ks[i] < SizeOf.sizeOf ks := List.sizeOf_lt_of_mem (g_ hi)
  simp at hN
  omega
open Classical in
theorem tT {P Q : Nat → Prop} (e f : Ex) (A : Option Addr) (c : Nat) (B : Option Addr) (d : Nat) (w : World) (ha : cx P w e A c) (hb : cx Q w f B d) :
  Calls prog 64 #[cM e A c, cM f B d] w fun r w' => r = .returned (.bool (decide (e = f))) ∧ Below w.heap.size w w' := yk _ e f A c B d w (n_ _) ha hb
end Go.Proofs.YtgcfjkfipkfijaaGreatDoor
