/- Part 23 of the proof of ragain_card; no conditions. -/
import Derived.Test.YtgcfjkfipkfijaaGreatDoorAg01
import Derived.Test.YtgcfjkfipkfijaaGreatDoorAg11
import Derived.Test.YtgcfjkfipkfijaaGreatDoorAg13
import Derived.Test.YtgcfjkfipkfijaaGreatDoorAg08
import Derived.Test.YtgcfjkfipkfijaaGreatDoorAg09
namespace Go.Proofs.YtgcfjkfipkfijaaGreatDoor
open Go Go.RowKit Go.Lib Tryz
inductive TP where
 | key (w : ByteArray)
 | sgn (x : ByteArray)
 | nam (s : ByteArray)
 | num (n : Int)
 | ex (e : Ex)
def TP.cost : TP → Nat
 | .ex e => ej e
 | _ => 1
def aB : List TP → Nat
 | [] => 0
 | p :: ps => p.cost + aB ps
theorem bo : ∀ ps qs : List TP, aB (ps ++ qs) = aB ps + aB qs
 | [], qs => by simp [aB]
 | p :: ps, qs => by rw [List.cons_append, aB, aB, bo ps qs]; omega
def TP.Is : TP → List aZ → Prop
 | .key w, ts => ∃ t : aZ, ts = [t] ∧ t.kind = 1 ∧ dd t = w
 | .sgn x, ts => ∃ t : aZ, ts = [t] ∧ t.kind = 4 ∧ t.text = x
 | .nam s, ts => ∃ t : aZ, ts = [t] ∧ t.kind = 1 ∧ t.text = s
 | .num n, ts => ∃ t : aZ, ts = [t] ∧ t.kind = 2 ∧ t.n = n
 | .ex e, ts => fL 1 e ts ∧ ts.length = ej e
def qH : List TP → List aZ → Prop
 | [], ts => ts = []
 | p :: ps, ts => ∃ us vs, ts = us ++ vs ∧ p.Is us ∧ qH ps vs
theorem qH.app : ∀ {ps qs : List TP} {us vs : List aZ}, qH ps us → qH qs vs → qH (ps ++ qs) (us ++ vs)
 | [], _, us, vs, h, k => by rw [qH] at h; subst h; exact k
 | p :: ps, qs, us, vs, h, k => by
  rw [qH] at h
  obtain ⟨a, b, rfl, ha, hb⟩ := h
  rw [List.cons_append, qH]
  exact ⟨a, b ++ vs, by simp, ha, hb.app k⟩
theorem TP.Is.len {p : TP} {ts : List aZ} (h : p.Is ts) : ts.length = p.cost := by
 cases p with
 | ex e => exact h.2
 | key w => obtain ⟨t, rfl, _⟩ := h; rfl
 | sgn w => obtain ⟨t, rfl, _⟩ := h; rfl
 | nam w => obtain ⟨t, rfl, _⟩ := h; rfl
 | num w => obtain ⟨t, rfl, _⟩ := h; rfl
theorem qH.len : ∀ {ps : List TP} {ts : List aZ}, qH ps ts → ts.length = aB ps
 | [], ts, h => by rw [qH] at h; subst h; rfl
 | p :: ps, ts, h => by
  rw [qH] at h
  obtain ⟨a, b, rfl, ha, hb⟩ := h
  rw [O_, ha.len, hb.len, aB]
structure bB (s : List UInt8) (ps : List TP) (C : List UInt8 → Prop) : Prop where
 len : aB ps ≤ s.length
 vd : Vd s
 lex : ∀ (r : List UInt8), C r → ∀ (f : Nat) (a : Int) (out : List aZ), out.length + aB ps ≤ 2000 → ∃ ts a', qH ps ts ∧ eN (f + aB ps) (s ++ r) a out = eN f r a' (out ++ ts)
def Any (_ : List UInt8) : Prop := True
def Ah (r : List UInt8) : Prop := r.getD 0 0 ≠ 61
theorem bB.app {s s2 ps qs C C2} (h : bB s ps C) (k : bB s2 qs C2) (hc : ∀ r, C2 r → C (s2 ++ r)) : bB (s ++ s2) (ps ++ qs) C2 := by
 refine ⟨by rw [bo, O_]; have := h.len; have := k.len; omega, ie h.vd k.vd, fun r hr f a out ho => ?_⟩
 rw [bo] at ho
 obtain ⟨ts, a1, g1, g2⟩ := h.lex (s2 ++ r) (hc r hr) (f + aB qs) a out (by omega)
 obtain ⟨us, a2, g3, g4⟩ := k.lex r hr f a1 (out ++ ts) (by rw [O_, g1.len]; omega)
 refine ⟨ts ++ us, a2, g1.app g3, ?_⟩
 rw [bo, o_ s, show f + (aB ps + aB qs) = f + aB qs + aB ps by omega, g2, g4, o_]
theorem bB.then_ {s s2 ps qs C2} (h : bB s ps Any) (k : bB s2 qs C2) : bB (s ++ s2) (ps ++ qs) C2 := h.app k (fun _ _ => trivial)
theorem bB.word {s s2 c t ps qs C2} (h : bB s ps cF) (k : bB s2 qs C2) (hs : s2 = c :: t) (hc : c = 32 ∨ c = 41 ∨ c = 10 ∨ c = 44 ∨ c = 59 ∨ c = 40) : bB (s ++ s2) (ps ++ qs) C2 :=
 h.app k (fun r _ => .inr ⟨c, t ++ r, by rw [hs]; rfl, hc⟩)
theorem bB.sign {s s2 c t ps qs C2} (h : bB s ps Ah) (k : bB s2 qs C2) (hs : s2 = c :: t) (hc : c ≠ 61) : bB (s ++ s2) (ps ++ qs) C2 :=
 h.app k (fun r _ => by subst hs; exact hc)
theorem cu : ∀ s : List UInt8, (∀ b, b ∈ s → b = 32 ∨ b = 10) → bB s [] Any
 | [], _ => ⟨H_ _, fun x hx => by simp [d9] at hx, fun r _ f a out _ => ⟨[], a, rfl, by simp [aB]⟩⟩
 | c :: s, h => by
  have h1 := cu s (fun b hb => h b (by simp [hb]))
  have hc := h c (by simp)
  have h0 : bB [c] [] Any := ⟨h_ _, cQ (fun b hb => by simp at hb; subst hb; rcases hc with rfl | rfl <;> decide), fun r _ f a out _ => ⟨[], a + 1, rfl, by simp only [aB, Nat.add_zero, List.append_nil, List.cons_append, List.nil_append]; exact jg hc⟩⟩
  exact h0.then_ h1
theorem j9 {s t p C} (hp : p.cost = 1) (hs : s ≠ []) (hv : Vd s) (hk : ∀ r, cY (s ++ r) = 0) (ht : ∀ r, C r → bC (s ++ r) = (t, (s.length : Int), 0)) (hd : ∀ a, p.Is [{ t with at_ := a }]) : bB s [p] C := by
 have h1 : aB [p] = 1 := by rw [aB, aB, hp]
 refine ⟨by rw [h1]; exact F_ hs, hv, fun r hr f a out ho => ⟨[{ t with at_ := a }], a + (ai s).length, ⟨_, [], by simp, hd a, rfl⟩, ?_⟩⟩
 rw [h1] at ho ⊢
 exact fW hs (hk r) (by omega) (ht r hr)
theorem oi {s p} (hp : p.cost = 1) (h : cg s = true) (hd : ∀ a, p.Is [⟨1, s, 0, a⟩]) : bB (dh s) [p] cF := by
 obtain ⟨hv, hw, hne, _, _⟩ := ij h
 have hmem : decodeL s.data.toList ∈ ai s.data.toList := by rw [aV _ hne]; simp
 obtain ⟨c, t, hct⟩ := m_ hne
 have hf := kv hct (hw _ hmem)
 exact j9 (t := ⟨1, s, 0, 0⟩) hp hne hv (fun r => by unfold dh; rw [hct]; exact cm hf.1 hf.2.1) (fun r hr => nC h hr) hd
theorem gh {s} (h : cg s = true) : bB (dh s) [.nam s] cF := oi rfl h (fun _ => ⟨_, rfl, rfl, rfl⟩)
theorem dY {s} (h : s ∈ aU) : bB (dh s) [.key s] cF := by
 refine oi rfl ?_ (fun _ => ⟨_, rfl, rfl, ?_⟩)
 ·simp only [aU, List.mem_cons, List.not_mem_nil, or_false] at h
  rcases h with rfl | rfl | rfl | rfl | rfl | rfl | rfl | rfl | rfl <;> kernel_rfl
 ·simp only [aU, List.mem_cons, List.not_mem_nil, or_false] at h
  rcases h with rfl | rfl | rfl | rfl | rfl | rfl | rfl | rfl | rfl <;> rfl
theorem cI {c} (hc : cO c.toNat = 4) (ha : c.toNat < 128) : bB [c] [.sgn ⟨#[c]⟩] Ah :=
 j9 (t := ⟨4, ⟨#[c]⟩, 0, 0⟩) rfl (by simp) (cQ (by simpa using ha)) (fun r => cm (by rw [hc]; decide) (by rw [hc]; decide)) (fun r hr => fV hc ha hr) (fun a => ⟨_, rfl, rfl, rfl⟩)
theorem xN : bB [58, 61] [.sgn ⟨#[58, 61]⟩] Any := by
 refine j9 (t := ⟨4, ⟨#[58, 61]⟩, 0, 0⟩) rfl (by simp) (cQ (by decide)) (fun r => cm (by decide) (by decide)) (fun r _ => ?_) (fun a => ⟨_, rfl, rfl, rfl⟩)
 show bC (58 :: 61 :: r) = _
 unfold bC
 simp only
 rw [decodeL_ascii 58 (61 :: r) (by decide)]
 simp only
 rw [show cO ((58 : UInt8).toNat : Int) = 4 from rfl, K_ (by decide), K_ (by decide), K_ (by decide), M_ rfl, M_ ⟨by simp, rfl, by show 0 ≤ indexByte [60, 62, 61, 33, 58] 58; decide⟩]
 rfl
theorem qI {n} (h0 : 0 ≤ n) (h1 : n ≤ 9223372036854775807) : bB (Lib.itoa n) [.num n] cF := by
 have hi : Lib.itoa n = decDigits n.toNat := by unfold Lib.itoa; rw [K_ (by omega)]
 have hdig : ∀ b, b ∈ Lib.itoa n → 48 ≤ b.toNat ∧ b.toNat ≤ 57 := by rw [hi]; exact gD _
 have hne : Lib.itoa n ≠ [] := by rw [hi]; exact lU _
 obtain ⟨c, t, hct⟩ := m_ hne
 have hc := hdig c (by rw [hct]; simp)
 have h3 := el hc.1 hc.2
 exact j9 (t := ⟨2, ⟨(Lib.itoa n).toArray⟩, n, 0⟩) rfl hne (cQ (fun b hb => by have := hdig b hb; omega)) (fun r => by rw [hct]; exact cm (by rw [h3]; decide) (by rw [h3]; decide)) (fun r hr => p6 h0 h1 hr) (fun a => ⟨_, rfl, rfl, rfl⟩)
theorem tL {e} (h : ic e) (hk : ch e) : bB (au e) [.ex e] cF := by
 have hl := wN h hk
 have h1 : aB [.ex e] = ej e := by rw [aB, aB]; rfl
 refine ⟨by rw [h1]; exact hl.len, hl.vd, fun r hr f a out ho => ?_⟩
 rw [h1] at ho ⊢
 obtain ⟨ts, a', g1, g2, g3⟩ := hl.lex r hr f a out ho
 have := oz e.op
 have := oA e.op
 exact ⟨ts, a', ⟨ts, [], by simp, ⟨jQ (by decide) g2 (by omega) (by omega), g1⟩, rfl⟩, g3⟩
def gl (s : ByteArray) : Prop := cg s = true ∧ pd (lL s) aU = false
def yv (e : Ex) : Prop := ic e ∧ ch e ∧ ej e ≤ 64
def AL (us : List ByteArray) : Prop := us ≠ [] ∧ us.length ≤ 5 ∧ us.Nodup ∧ ∀ u, u ∈ us → gl u
def vr (al : List Ar) : Prop := al.length ≤ 4 ∧ (al.map (·.name)).Nodup ∧ ∀ a, a ∈ al → gl a.name ∧ yv a.e
mutual
def jw : Pc → Prop
 | .row k us kids => ((k = 0 ∨ k = 1) ∧ us = [] ∨ k = 2 ∧ AL us) ∧ et kids
 | .choice e a b => yv e ∧ et a ∧ et b
 | .step nm al => gl nm ∧ vr al
def et : List Pc → Prop
 | [] => True
 | p :: ps => jw p ∧ et ps
end
def AM : List ByteArray → List TP
 | [] => []
 | u :: us => .nam u :: us.flatMap (fun v => [.sgn ⟨#[44]⟩, .nam v])
def xO (a : Ar) : List TP := [.nam a.name, .sgn ⟨#[61]⟩, .ex a.e]
def lj : List Ar → List TP
 | [] => []
 | a :: al => xO a ++ al.flatMap (fun b => .sgn ⟨#[44]⟩ :: xO b)
def mD (nm : ByteArray) (al : List Ar) : List TP := [.key cW] ++ ([.nam nm] ++ ([.sgn ⟨#[40]⟩] ++ (lj al ++ ([.sgn ⟨#[41]⟩] ++ [.sgn ⟨#[59]⟩]))))
def fI (k : Int) (us : List ByteArray) : List TP := if k = 1 then [.key jb] else if k = 2 then [.key dH] ++ AM us else [.key kp]
def o4 (k : Int) (us : List ByteArray) : List UInt8 := if k = 1 then [112, 97, 114] else if k = 2 then [117, 110, 105, 116, 32] ++ Lib.join (us.map dh) [44, 32] else [115, 101, 113]
mutual
def pT : Pc → List UInt8 → List UInt8
 | .row k us kids, ind => ind ++ (o4 k us ++ ([32, 123, 10] ++ (qJ kids (ind ++ [32, 32]) ++ (ind ++ [125, 10]))))
 | .choice e a b, ind => ind ++ ([105, 102, 32] ++ (dz e ++ ([32, 123, 10] ++ (qJ a (ind ++ [32, 32]) ++ ((if b.isEmpty = true then [] else ind ++ ([125, 32, 101, 108, 115, 101, 32, 123, 10] ++ qJ b (ind ++ [32, 32]))) ++ (ind ++ [125, 10]))))))
 | .step nm al, ind => ep ⟨3, [], [], nm, al, dP⟩ ind
def qJ : List Pc → List UInt8 → List UInt8
 | [], _ => []
 | p :: ps, ind => pT p ind ++ qJ ps ind
end
mutual
def kg : Pc → List TP
 | .row k us kids => fI k us ++ ([.sgn ⟨#[123]⟩] ++ (dO kids ++ [.sgn ⟨#[125]⟩]))
 | .choice e a b => [.key lM] ++ ([.ex e] ++ ([.sgn ⟨#[123]⟩] ++ (dO a ++ ((if b.isEmpty = true then [] else [.sgn ⟨#[125]⟩] ++ ([.key ct] ++ ([.sgn ⟨#[123]⟩] ++ dO b))) ++ [.sgn ⟨#[125]⟩]))))
 | .step nm al => mD nm al
def dO : List Pc → List TP
 | [] => []
 | p :: ps => kg p ++ dO ps
end
def cp (s : List UInt8) : Prop := ∀ b, b ∈ s → b = 32 ∨ b = 10
theorem cp.more {s t} (h : cp s) (k : cp t) : cp (s ++ t) := fun b hb => (G_ hb).elim (h b) (k b)
theorem bB.cast {s s' ps ps' C} (h : bB s ps C) (hs : s' = s) (hp : ps' = ps) : bB s' ps' C := by subst hs hp; exact h
theorem bR {s ps C} (b) (hb : cp b) (h : bB s ps C) : bB (b ++ s) ps C := (cu b hb).then_ h
theorem tM {e} (h : yv e) : dz e = au e := by unfold dz; rw [M_ ((ti e).2 ⟨h.1, h.2.2⟩)]
theorem sF : ∀ us : List ByteArray, us ≠ [] → (∀ u, u ∈ us → gl u) → bB (Lib.join (us.map dh) [44, 32]) (AM us) cF
 | [], h, _ => absurd rfl h
 | u :: us, _, hw => by
  have tail : ∀ vs : List ByteArray, (∀ u, u ∈ vs → gl u) → ∀ s0 p0, bB s0 p0 cF → bB (s0 ++ Lib.joinTail [44, 32] (vs.map dh)) (p0 ++ vs.flatMap (fun v => [.sgn ⟨#[44]⟩, .nam v])) cF := by
   intro vs
   induction vs with
   | nil => intro _ s0 p0 h; exact h.cast (by simp [Lib.joinTail]) (by simp)
   | cons v vs ih =>
    intro hv s0 p0 h
    have h1 : bB ([44] ++ ([32] ++ dh v)) ([.sgn ⟨#[44]⟩] ++ [.nam v]) cF := (cI (c := 44) rfl (by decide)).sign (bR [32] (by simp [cp]) (gh (hv v (by simp)).1)) rfl (by decide)
    have h2 := ih (fun u hu => hv u (by simp [hu])) _ _ (h.word h1 rfl (by decide))
    exact h2.cast (by simp [Lib.joinTail]) (by simp)
  rw [List.map_cons, Lib.join_cons]
  exact (tail us (fun v hv => hw v (by simp [hv])) _ _ (gh (hw u (by simp)).1)).cast rfl (by simp [AM])
theorem qK {a} (h : gl a.name ∧ yv a.e) : bB (dN a) (xO a) cF := by
 have h1 : bB ([61] ++ ([32] ++ au a.e)) ([.sgn ⟨#[61]⟩] ++ [.ex a.e]) cF := (cI (c := 61) rfl (by decide)).sign (bR [32] (by simp [cp]) (tL h.2.1 h.2.2.1)) rfl (by decide)
 have h2 : bB (dh a.name ++ ([32] ++ ([61] ++ ([32] ++ au a.e)))) ([.nam a.name] ++ ([.sgn ⟨#[61]⟩] ++ [.ex a.e])) cF := (gh h.1.1).word (bR [32] (by simp [cp]) h1) rfl (by decide)
 exact h2.cast (by unfold dN; rw [tM h.2]; simp) rfl
theorem vv : ∀ al : List Ar, al.length ≤ 4 → (∀ a, a ∈ al → gl a.name ∧ yv a.e) → al ≠ [] → bB (eF al) (lj al) cF
 | [], _, _, h => absurd rfl h
 | a :: al, h4, hw, _ => by
  have tail : ∀ vs : List Ar, (∀ u, u ∈ vs → gl u.name ∧ yv u.e) → ∀ s0 p0, bB s0 p0 cF → bB (s0 ++ Lib.joinTail [44, 32] (vs.map dN)) (p0 ++ vs.flatMap (fun v => .sgn ⟨#[44]⟩ :: xO v)) cF := by
   intro vs
   induction vs with
   | nil => intro _ s0 p0 h; exact h.cast (by simp [Lib.joinTail]) (by simp)
   | cons v vs ih =>
    intro hv s0 p0 h
    have h1 : bB ([44] ++ ([32] ++ dN v)) ([.sgn ⟨#[44]⟩] ++ xO v) cF := (cI (c := 44) rfl (by decide)).sign (bR [32] (by simp [cp]) (qK (hv v (by simp)))) rfl (by decide)
    have h2 := ih (fun u hu => hv u (by simp [hu])) _ _ (h.word h1 rfl (by decide))
    exact h2.cast (by simp [Lib.joinTail]) (by simp)
  unfold eF
  rw [List.take_of_length_le (by simp at h4 ⊢; omega), List.map_cons, Lib.join_cons]
  exact (tail al (fun v hv => hw v (by simp [hv])) _ _ (qK (hw a (by simp)))).cast rfl rfl
theorem vw {nm al ind} (hi : cp ind) (hn : gl nm) (ha : vr al) : bB (ep ⟨3, [], [], nm, al, dP⟩ ind) (mD nm al) Any := by
 have h1 : bB ([41] ++ ([59] ++ [10])) ([.sgn ⟨#[41]⟩] ++ ([.sgn ⟨#[59]⟩] ++ [])) Any := (cI (c := 41) rfl (by decide)).sign ((cI (c := 59) rfl (by decide)).sign (cu [10] (by simp)) rfl (by decide)) rfl (by decide)
 have h2 : bB ([40] ++ (eF al ++ ([41] ++ ([59] ++ [10])))) ([.sgn ⟨#[40]⟩] ++ (lj al ++ ([.sgn ⟨#[41]⟩] ++ ([.sgn ⟨#[59]⟩] ++ [])))) Any := by
  by_cases h0 : al = []
  ·subst h0
   exact (cI (c := 40) rfl (by decide)).sign (c := 41) (t := [59, 10]) (h1.cast (by simp [eF, Lib.join_nil]) (by simp [lj])) (by simp [eF, Lib.join_nil]) (by decide)
  ·have h3 := (vv al ha.1 ha.2.2 h0).word h1 rfl (by decide)
   refine (cI (c := 40) rfl (by decide)).app h3 (fun r _ => ?_)
   obtain ⟨a, l, rfl⟩ := m_ h0
   have hw := ij (ha.2.2 a (by simp)).1.1
   obtain ⟨c, t, hct⟩ := m_ hw.2.2.1
   have hmem : decodeL a.name.data.toList ∈ ai a.name.data.toList := by rw [aV _ hw.2.2.1]; simp
   have hf := kv hct (hw.2.1 _ hmem)
   unfold Ah eF
   rw [List.take_cons (by decide), List.map_cons, Lib.join_cons]
   unfold dN dh
   rw [hct]
   exact hf.2.2
 have h3 : bB (dh nm ++ ([40] ++ (eF al ++ ([41] ++ ([59] ++ [10]))))) ([.nam nm] ++ ([.sgn ⟨#[40]⟩] ++ (lj al ++ ([.sgn ⟨#[41]⟩] ++ ([.sgn ⟨#[59]⟩] ++ []))))) Any := (gh hn.1).word h2 rfl (by decide)
 have h4 := bR ind hi ((dY (s := cW) (by simp [aU])).word (bR [32] (by simp [cp]) h3) rfl (by decide))
 exact h4.cast (by unfold ep; simp [dh, cW]) (by unfold mD; simp)
theorem kJ : bB [32, 123, 10] [.sgn ⟨#[123]⟩] Any := (bR [32] (by simp [cp]) ((cI (c := 123) rfl (by decide)).sign (cu [10] (by simp)) rfl (by decide))).cast rfl rfl
theorem kK {ind} (hi : cp ind) : bB (ind ++ [125, 10]) [.sgn ⟨#[125]⟩] Any := (bR ind hi ((cI (c := 125) rfl (by decide)).sign (cu [10] (by simp)) rfl (by decide))).cast rfl rfl
theorem vy {k us} (h : (k = 0 ∨ k = 1) ∧ us = [] ∨ k = 2 ∧ AL us) : bB (o4 k us) (fI k us) cF := by
 unfold o4 fI
 rcases h with ⟨rfl | rfl, rfl⟩ | ⟨rfl, h⟩
 ·rw [K_ (by decide), K_ (by decide), K_ (by decide), K_ (by decide)]
  exact dY (s := kp) (by simp [aU])
 ·rw [M_ rfl, M_ rfl]
  exact dY (s := jb) (by simp [aU])
 ·rw [K_ (by decide), M_ rfl, K_ (by decide), M_ rfl]
  exact ((dY (s := dH) (by simp [aU])).word (bR [32] (by simp [cp]) (sF us h.1 h.2.2.2)) rfl (by decide)).cast (by simp [dh, dH]) rfl
theorem qL (N) : (∀ p : Pc, SizeOf.sizeOf p < N → jw p → ∀ ind, cp ind → bB (pT p ind) (kg p) Any) ∧ ∀ ps : List Pc, SizeOf.sizeOf ps < N → et ps → ∀ ind, cp ind → bB (qJ ps ind) (dO ps) Any := by
 induction N with
 | zero => exact ⟨fun p h => by omega, fun ps h => by omega⟩
 | succ N ih =>
  refine ⟨fun p h hw ind hi => ?_, fun ps h hw ind hi => ?_⟩
  ·have hi2 : cp (ind ++ [32, 32]) := hi.more (by simp [cp])
   cases p with
   | row k us kids =>
    rw [jw] at hw
    have h1 := ih.2 kids (by simp at h; omega) hw.2 _ hi2
    rw [pT, kg]
    exact bR ind hi ((vy hw.1).word (kJ.then_ (h1.then_ (kK hi))) rfl (by decide))
   | choice e a b =>
    rw [jw] at hw
    simp at h
    have h1 := ih.2 a (by omega) hw.2.1 _ hi2
    have h2 := ih.2 b (by omega) hw.2.2 _ hi2
    rw [pT, kg, tM hw.1]
    have h3 : bB (if b.isEmpty = true then [] else ind ++ ([125, 32, 101, 108, 115, 101, 32, 123, 10] ++ qJ b (ind ++ [32, 32]))) (if b.isEmpty = true then [] else [.sgn ⟨#[125]⟩] ++ ([.key ct] ++ ([.sgn ⟨#[123]⟩] ++ dO b))) Any := by
     split
     ·exact cu [] (by simp)
     ·have h4 : bB (dh ct ++ ([32, 123, 10] ++ qJ b (ind ++ [32, 32]))) ([.key ct] ++ ([.sgn ⟨#[123]⟩] ++ dO b)) Any := (dY (s := ct) (by simp [aU])).word (kJ.then_ h2) rfl (by decide)
      have h5 := bR ind hi ((cI (c := 125) rfl (by decide)).sign (bR [32] (by simp [cp]) h4) rfl (by decide))
      exact h5.cast (by simp [dh, ct]) rfl
    have h6 := (dY (s := lM) (by simp [aU])).word (bR [32] (by simp [cp]) ((tL hw.1.1 hw.1.2.1).word (kJ.then_ (h1.then_ (h3.then_ (kK hi)))) rfl (by decide))) rfl (by decide)
    exact (bR ind hi h6).cast (by simp [dh, lM]) rfl
   | step nm al =>
    rw [jw] at hw
    rw [pT, kg]
    exact vw hi hw.1 hw.2
  ·cases ps with
   | nil => rw [qJ, dO]; exact cu [] (by simp)
   | cons p ps =>
    rw [et] at hw
    simp at h
    rw [qJ, dO]
    exact (ih.1 p (by omega) hw.1 ind hi).then_ (ih.2 ps (by omega) hw.2 ind hi)
theorem sG {l x s} (h : (aj l x s).1 = true) : aN l x s = (aj l x s).2 := by unfold aN; rw [M_ h]
theorem gm {l x s} (h : (aj l x s).1 = false) : (aj l x s).2 = s := by
 unfold aj at h ⊢
 split
 ·rename_i hc; rw [M_ hc] at h; exact absurd h (by simp)
 ·rfl
section
variable {l : List aZ} {s : RS}
theorem qM {x} : (aN l x s).bad = 0 → s.bad = 0 ∧ (aN l x s).nodes = s.nodes := by
 unfold aN aj
 by_cases h : (cj l x s || bj l x s) = true
 ·rw [M_ h]
  intro _
  rw [Bool.or_eq_true] at h
  refine ⟨?_, rfl⟩
  rcases h with h | h
  ·unfold cj at h; rw [a_, beq_iff_eq] at h; exact h.1
  ·exact (gy h).2
 ·rw [K_ h]
  intro h
  exact absurd h (bu (by decide) _)
end
section
variable {l : List aZ} {s : RS}
def fq (s s' : RS) : Prop := s'.bad = 0 → s.bad = 0 ∧ s'.nodes = s.nodes
theorem fq.refl : fq s s := fun h => ⟨h, rfl⟩
theorem fq.trans {a b c} (h1 : fq a b) (h2 : fq b c) : fq a c := fun h => ⟨(h1 (h2 h).1).1, (h2 h).2.trans (h1 (h2 h).1).2⟩
theorem mE {e} (he : e ≠ 0) : fq s (bO e s) := fun h => absurd h (bu he s)
theorem qN (had) : fq s (aI l had s).2 := by
 unfold aI
 split
 ·exact .refl
 ·rename_i h
  split
  ·exact mE (by decide)
  ·split
   ·exact mE (by decide)
   ·exact fun _ => ⟨Decidable.byContradiction h, rfl⟩
theorem qO (n k) : fq s (c9 l n k s) := by
 unfold c9
 split
 ·exact mE (by decide)
 ·exact .refl
theorem xP : fq s (dq l s).2 := by
 unfold dq
 split
 ·exact .refl
 ·rename_i h
  exact fun _ => ⟨Decidable.byContradiction h, rfl⟩
theorem AO (x) : fq s (aN l x s) := qM
theorem eu {x} : fq s (aj l x s).2 := by
 cases h : (aj l x s).1
 ·rw [gm h]; exact .refl
 ·rw [← sG h]; exact qM
theorem xQ (had) : fq s (iU l had s).2 := (((qO _ _).trans (qN _)).trans (AO _)).trans xP
theorem qP : ∀ (f : Nat) (q : Bool) (al : List Ar) (s : RS), fq s (fD l f q al s).2
 | 0, _, _, _ => .refl
 | f + 1, q, al, s => by
  rw [fD]
  split
  ·exact ((xQ _).trans eu).trans (qP f _ _ _)
  ·exact .refl
theorem mF : ∀ (f : Nat) (us : List ByteArray) (s : RS), fq s (de l f us s).2
 | 0, _, _ => .refl
 | f + 1, us, s => by
  rw [de]
  split
  ·exact ((eu.trans (qO _ _)).trans (qN _)).trans (mF f _ _)
  ·exact eu
end
def MA (l : List aZ) : List TP → Int → Int → Prop
 | [], i, j => i = j
 | p :: ps, i, j => ∃ ts, p.Is ts ∧ gP l i ts ∧ MA l ps (i + ts.length) j
section
variable {l : List aZ} {i j n : Int}
theorem kL : ∀ {ps qs : List TP} {i : Int}, MA l (ps ++ qs) i j ↔ ∃ k, MA l ps i k ∧ MA l qs k j
 | [], qs, i => ⟨fun h => ⟨i, rfl, h⟩, fun ⟨k, h1, h2⟩ => by rw [MA] at h1; subst h1; exact h2⟩
 | p :: ps, qs, i => by
  rw [List.cons_append, MA]
  refine ⟨fun ⟨ts, h1, h2, h3⟩ => ?_, fun ⟨k, h1, h2⟩ => ?_⟩
  ·obtain ⟨k, h4, h5⟩ := kL.1 h3
   exact ⟨k, ⟨ts, h1, h2, h4⟩, h5⟩
  ·obtain ⟨ts, h3, h4, h5⟩ := h1
   exact ⟨ts, h3, h4, kL.2 ⟨k, h5, h2⟩⟩
theorem zO : ∀ {ps : List TP} {ts : List aZ} {i : Int}, qH ps ts → gP l i ts → MA l ps i (i + ts.length)
 | [], ts, i, h, _ => by rw [qH] at h; subst h; rw [MA]; simp
 | p :: ps, ts, i, h, hs => by
  rw [qH] at h
  obtain ⟨us, vs, rfl, h1, h2⟩ := h
  have h3 := zO h2 hs.right
  rw [MA]
  refine ⟨us, h1, hs.left, ?_⟩
  rwa [O_, show i + ((us.length + vs.length : Nat) : Int) = i + us.length + vs.length by omega]
def TP.At (p : TP) (t : aZ) : Prop := match p with
 | .key w => t.kind = 1 ∧ dd t = w
 | .sgn x => t.kind = 4 ∧ t.text = x
 | .nam s => t.kind = 1 ∧ t.text = s
 | .num n => t.kind = 2 ∧ t.n = n
 | .ex _ => True
theorem aM {p} (hp : ∀ e, p ≠ .ex e) {ps} (h : MA l (p :: ps) i j) : p.At (ah l i) ∧ MA l ps (i + 1) j := by
 rw [MA] at h
 obtain ⟨ts, h1, h2, h3⟩ := h
 cases p with
 | ex e => exact absurd rfl (hp e)
 | key w => obtain ⟨t, rfl, h4⟩ := h1; rw [← h2.head] at h4; exact ⟨h4, h3⟩
 | sgn w => obtain ⟨t, rfl, h4⟩ := h1; rw [← h2.head] at h4; exact ⟨h4, h3⟩
 | nam w => obtain ⟨t, rfl, h4⟩ := h1; rw [← h2.head] at h4; exact ⟨h4, h3⟩
 | num w => obtain ⟨t, rfl, h4⟩ := h1; rw [← h2.head] at h4; exact ⟨h4, h3⟩
theorem mG {t} (h : t.kind ≠ 1) : dd t = ⟨#[]⟩ := by unfold dd; rw [K_ (fun hc => h hc.1)]
theorem vz {t s} (h : t.text = s) (hw : gl s) : dd t = ⟨#[]⟩ := by
 unfold dd
 rw [h, K_ (fun hc => by rw [hw.2] at hc; exact absurd hc.2 (by decide))]
theorem cV {w} (h : dd (ah l i) = w) : aj l w ⟨i, 0, n⟩ = (true, ⟨i + 1, 0, n⟩) := by
 unfold aj cj
 rw [h, show dE w w = true from aQ.2 rfl]
 rfl
theorem xR {w} (h : dd (ah l i) = w) : aN l w ⟨i, 0, n⟩ = ⟨i + 1, 0, n⟩ := by unfold aN; rw [cV h]; rfl
theorem sH {x} (h : (TP.sgn x).At (ah l i)) : bj l x ⟨i, 0, n⟩ = true := by
 unfold bj
 rw [h.1, h.2, show dE x x = true from aQ.2 rfl]
 rfl
theorem iO {x} (h : (TP.sgn x).At (ah l i)) : aj l x ⟨i, 0, n⟩ = (true, ⟨i + 1, 0, n⟩) := by
 unfold aj
 rw [sH h, Bool.or_true]
 rfl
theorem eH {x} (h : (TP.sgn x).At (ah l i)) : aN l x ⟨i, 0, n⟩ = ⟨i + 1, 0, n⟩ := by unfold aN; rw [iO h]; rfl
theorem Ai {x y} (h : (TP.sgn x).At (ah l i)) (hxy : dE x y = false) : bj l y ⟨i, 0, n⟩ = false := by
 unfold bj
 rw [h.2, hxy, Bool.and_false, Bool.and_false]
theorem lA {y} (h : (ah l i).kind ≠ 4) : bj l y ⟨i, 0, n⟩ = false := by
 unfold bj
 rw [aO h, Bool.false_and, Bool.and_false]
theorem kM {y} (h1 : bj l y ⟨i, 0, n⟩ = false) (h2 : cj l y ⟨i, 0, n⟩ = false) : aj l y ⟨i, 0, n⟩ = (false, ⟨i, 0, n⟩) := by
 unfold aj
 rw [h1, h2]
 rfl
theorem o5 {y} (h : dE (dd (ah l i)) y = false) : cj l y ⟨i, 0, n⟩ = false := by unfold cj; rw [h, Bool.and_false]
theorem j' {x y} (h : (TP.sgn x).At (ah l i)) (hxy : dE x y = false) (hy : y.size ≠ 0) : aj l y ⟨i, 0, n⟩ = (false, ⟨i, 0, n⟩) := by
 refine kM (Ai h hxy) (o5 ?_)
 rw [mG (by rw [h.1]; decide)]
 refine E_ (fun hc => hy ?_)
 rw [← aQ.1 hc]
 rfl
theorem fa {s had} (h : (TP.nam s).At (ah l i)) (hw : gl s) (hh : pd s had = false) : aI l had ⟨i, 0, n⟩ = (s, ⟨i + 1, 0, n⟩) := by
 have hn : eL l ⟨i, 0, n⟩ = true := by
  unfold eL
  rw [h.1, vz h.2 hw]
  rfl
 unfold aI
 rw [K_ (by simp), K_ (by rw [hn]; decide), h.2, K_ (by rw [hh]; decide)]
 rfl
theorem oj {a b s} (h : a ≠ b) : c9 l a b s = s := by unfold c9; rw [K_ (fun hc => h hc.1)]
theorem o6 {s had} (h : s ∉ had) : pd s had = false := by
 unfold pd
 rw [List.any_eq_false]
 intro y hy hc
 rw [aQ] at hc
 exact h (hc ▸ hy)
theorem qQ {x} (h : (TP.sgn x).At (ah l i)) (hx : x = ⟨#[123]⟩ ∨ x = ⟨#[44]⟩ ∨ x = ⟨#[41]⟩) : fk l i 1 := fun op h4 h16 _ hs => by
 have h1 := hs.2
 rw [h.2, aQ] at h1
 have hop : op = 4 ∨ op = 5 ∨ op = 6 ∨ op = 7 ∨ op = 8 ∨ op = 9 ∨ op = 10 ∨ op = 11 ∨ op = 12 ∨ op = 13 ∨ op = 14 ∨ op = 15 ∨ op = 16 := by omega
 have h2 : dE (aT op) x = true := aQ.2 h1
 rcases hx with rfl | rfl | rfl <;> rcases hop with rfl | rfl | rfl | rfl | rfl | rfl | rfl | rfl | rfl | rfl | rfl | rfl | rfl <;> exact absurd h2 (by decide)
theorem o7 {e ps x} (he : yv e) (h : MA l (.ex e :: .sgn x :: ps) i j) (hx : x = ⟨#[123]⟩ ∨ x = ⟨#[44]⟩ ∨ x = ⟨#[41]⟩) : ∃ k, dq l ⟨i, 0, n⟩ = (e, ⟨k, 0, n⟩) ∧ MA l (.sgn x :: ps) k j := by
 rw [MA] at h
 obtain ⟨ts, h1, h2, h3⟩ := h
 have h4 := ur h1.1 h2 (qQ (aM (by simp) h3).1 hx) (by rw [h1.2]; exact he.2.2)
 refine ⟨i + ts.length, ?_, h3⟩
 unfold dq
 rw [K_ (by simp), h4]
end
section
variable {l : List aZ} {i j n : Int}
def o8 (l : List aZ) (j : Int) : Prop := ∀ n, aj l ct ⟨j, 0, n⟩ = (false, ⟨j, 0, n⟩)
theorem sI {x} (h : (TP.sgn x).At (ah l j)) (hx : dE x ct = false) : o8 l j := fun _ => j' h hx (by decide)
theorem sJ {w} (h : (TP.key w).At (ah l j)) (hw : dE w ct = false) : o8 l j := fun _ => kM (lA (by rw [h.1]; decide)) (o5 (by rw [h.2]; exact hw))
def zP : Pc → ByteArray
 | .row k _ _ => if k = 1 then jb else if k = 2 then dH else kp
 | .choice _ _ _ => lM
 | .step _ _ => cW
theorem sL (p) : dE (zP p) ct = false := by
 cases p with
 | row k us kids =>
  show dE (if k = 1 then jb else if k = 2 then dH else kp) ct = false
  split
  ·decide
  ·split <;> decide
 | choice e a b => show dE lM ct = false; decide
 | step nm al => show dE cW ct = false; decide
theorem kN {p} (h : MA l (kg p) i j) : (TP.key (zP p)).At (ah l i) := by
 cases p with
 | row k us kids =>
  rw [kg] at h
  unfold fI at h
  show (TP.key (if k = 1 then jb else if k = 2 then dH else kp)).At _
  split at h
  ·rw [M_ (by assumption)]; exact (aM (by simp) h).1
  ·rw [K_ (by assumption)]
   split at h
   ·rw [M_ (by assumption)]; exact (aM (by simp) h).1
   ·rw [K_ (by assumption)]; exact (aM (by simp) h).1
 | choice e a b => rw [kg] at h; exact (aM (by simp) h).1
 | step nm al => rw [kg] at h; exact (aM (by simp) h).1
theorem ev {o} (h : n + o ≤ 24) : aP o ⟨i, 0, n⟩ = ⟨i, 0, n + o⟩ := by unfold aP; rw [K_ (by simp only; omega)]
def sM (l : List aZ) (nd : RS → Pc × RS) (p : Pc) : Prop := ∀ i j n : Int, 0 ≤ n → MA l (kg p) i j → n + cP p ≤ 24 → o8 l j → nd ⟨i, 0, n⟩ = (p, ⟨j, 0, n + cP p⟩)
theorem mH {nd} : ∀ (ps : List Pc) (f : Nat) (acc : List Pc) (i j n : Int), 0 ≤ n → (∀ p, p ∈ ps → sM l nd p) → MA l (dO ps) i j → (TP.sgn ⟨#[125]⟩).At (ah l j) → ps.length ≤ f → n + cn ps ≤ 24 → bJ l nd f acc ⟨i, 0, n⟩ = (acc ++ ps, ⟨j, 0, n + cn ps⟩)
 | [], f, acc, i, j, n, _, _, h, ht, _, _ => by
  rw [dO, MA] at h
  subst h
  have e : (acc, (⟨i, 0, n⟩ : RS)) = (acc ++ [], ⟨i, 0, n + ((cn [] : Nat) : Int)⟩) := by simp [cn]
  rw [← e]
  cases f with
  | zero => rfl
  | succ f => rw [bJ, K_ (fun hc => by rw [sH ht] at hc; exact absurd hc.2 (by decide))]
 | p :: ps, f, acc, i, j, n, h0, hnd, h, ht, hf, hn => by
  rw [dO] at h
  obtain ⟨k, h1, h2⟩ := kL.1 h
  obtain ⟨f, rfl⟩ : ∃ g, f = g + 1 := ⟨f - 1, by simp at hf; omega⟩
  have hw := kN h1
  rw [cn] at hn ⊢
  have hne : o8 l k := by
   cases ps with
   | nil => rw [dO, MA] at h2; subst h2; exact sI ht (by decide)
   | cons q qs =>
    rw [dO] at h2
    obtain ⟨k2, h3, _⟩ := kL.1 h2
    exact sJ (kN h3) (sL q)
  have h3 := hnd p (by simp) i k n h0 h1 (by omega) hne
  have h4 := mH ps f (acc ++ [p]) k j (n + cP p) (by omega) (fun q hq => hnd q (by simp [hq])) h2 ht (by simp at hf; omega) (by omega)
  rw [bJ, M_ ⟨rfl, lA (by rw [hw.1]; decide)⟩, h3]
  rw [h4, o_, show n + (cP p : Int) + cn ps = n + ((cP p + cn ps : Nat) : Int) by omega]
  rfl
def kO (ps : List Pc) : List TP := [.sgn ⟨#[123]⟩] ++ (dO ps ++ [.sgn ⟨#[125]⟩])
theorem tN : ∀ ps : List Pc, ps.length ≤ cn ps
 | [] => H_ _
 | p :: ps => by
  have := tN ps
  have : 1 ≤ cP p := by cases p <;> simp only [cP] <;> omega
  rw [cn, P_]
  omega
theorem mI {nd ps} (hnd : ∀ p, p ∈ ps → sM l nd p) (h : MA l (kO ps) i j) (hn : n + cn ps ≤ 24) (h0 : 0 ≤ n) : az l nd ⟨i, 0, n⟩ = (ps, ⟨j, 0, n + cn ps⟩) := by
 have h : MA l (.sgn ⟨#[123]⟩ :: (dO ps ++ [.sgn ⟨#[125]⟩])) i j := h
 obtain ⟨h1, h2⟩ := aM (by simp) h
 obtain ⟨k, h3, h4⟩ := kL.1 h2
 obtain ⟨h5, h6⟩ := aM (by simp) h4
 rw [MA] at h6
 subst h6
 have hl := tN ps
 unfold az
 rw [eH h1, mH ps 30 [] _ _ _ h0 hnd h3 h5 (by omega) hn]
 simp only [List.nil_append]
 rw [eH h5]
theorem om : ∀ (us : List ByteArray) (f : Nat) (had : List ByteArray) (ps : List TP) (i : Int), (∀ u, u ∈ us → gl u) → (had ++ us).Nodup → (had ++ us).length ≤ 5 → us.length ≤ f → MA l (us.flatMap (fun v => [.sgn ⟨#[44]⟩, .nam v]) ++ .sgn ⟨#[123]⟩ :: ps) i j →
  ∃ k, de l f had ⟨i, 0, n⟩ = (had ++ us, ⟨k, 0, n⟩) ∧ MA l (.sgn ⟨#[123]⟩ :: ps) k j
 | [], f, had, ps, i, _, _, _, _, h => by
  have h : MA l (.sgn ⟨#[123]⟩ :: ps) i j := h
  refine ⟨i, ?_, h⟩
  rw [List.append_nil]
  cases f with
  | zero => rfl
  | succ f =>
   rw [de, j' (aM (by simp) h).1 (by decide) (by decide), K_ (by simp)]
 | u :: us, f, had, ps, i, hw, hd, h5, hf, h => by
  obtain ⟨f, rfl⟩ : ∃ g, f = g + 1 := ⟨f - 1, by simp at hf; omega⟩
  rw [i_, o_] at h
  obtain ⟨h1, h2⟩ := aM (by simp) h
  obtain ⟨h3, h4⟩ := aM (by simp) h2
  have hnot : u ∉ had := fun hc => (List.nodup_append.1 hd).2.2 u hc u (by simp) rfl
  have hne : ((had.length : Nat) : Int) ≠ 5 := by simp at h5; omega
  obtain ⟨k, h6, h7⟩ := om us f (had ++ [u]) ps (i + 1 + 1) (fun v hv => hw v (by simp [hv])) (by simpa using hd) (by simpa using h5) (by simp at hf; omega) h4
  refine ⟨k, ?_, h7⟩
  rw [de, iO h1, M_ rfl]
  simp only
  rw [oj hne, fa h3 (hw u (by simp)) (o6 hnot), h6, o_]
  rfl
theorem oo : ∀ (al : List Ar) (f : Nat) (acc : List Ar) (ps : List TP) (i : Int), al ≠ [] → (∀ a, a ∈ al → gl a.name ∧ yv a.e) → ((acc ++ al).map (·.name)).Nodup → (acc ++ al).length ≤ 4 → al.length ≤ f → MA l (lj al ++ .sgn ⟨#[41]⟩ :: ps) i j →
  ∃ k, fD l f true acc ⟨i, 0, n⟩ = (acc ++ al, ⟨k, 0, n⟩) ∧ MA l (.sgn ⟨#[41]⟩ :: ps) k j
 | [], _, _, _, _, h, _, _, _, _, _ => absurd rfl h
 | a :: al, f, acc, ps, i, _, hw, hd, h4, hf, h => by
  obtain ⟨f, rfl⟩ : ∃ g, f = g + 1 := ⟨f - 1, by simp at hf; omega⟩
  have hx : ∃ x qs, (x = (⟨#[44]⟩ : ByteArray) ∨ x = ⟨#[41]⟩) ∧ al.flatMap (fun b => .sgn ⟨#[44]⟩ :: xO b) ++ .sgn ⟨#[41]⟩ :: ps = .sgn x :: qs := by
   cases al with
   | nil => exact ⟨_, ps, .inr rfl, rfl⟩
   | cons b al => exact ⟨_, _, .inl rfl, rfl⟩
  obtain ⟨x, qs, hx, hq⟩ := hx
  have h : MA l (.nam a.name :: .sgn ⟨#[61]⟩ :: .ex a.e :: (al.flatMap (fun b => .sgn ⟨#[44]⟩ :: xO b) ++ .sgn ⟨#[41]⟩ :: ps)) i j := by
   have e : lj (a :: al) ++ .sgn ⟨#[41]⟩ :: ps = .nam a.name :: .sgn ⟨#[61]⟩ :: .ex a.e :: (al.flatMap (fun b => .sgn ⟨#[44]⟩ :: xO b) ++ .sgn ⟨#[41]⟩ :: ps) := by simp [lj, xO]
   rwa [e] at h
  rw [hq] at h
  obtain ⟨h1, h2⟩ := aM (by simp) h
  obtain ⟨h3, h5⟩ := aM (by simp) h2
  obtain ⟨k, h6, h7⟩ := o7 (n := n) (hw a (by simp)).2 h5 (by rcases hx with h | h; exact .inr (.inl h); exact .inr (.inr h))
  have hnot : a.name ∉ acc.map (·.name) := fun hc => by
   rw [f_] at hd
   exact (List.nodup_append.1 hd).2.2 a.name hc a.name (by simp) rfl
  have hne : (((acc.map (·.name)).length : Nat) : Int) ≠ 4 := by simp at h4 ⊢; omega
  have hap : iU l (acc.map (·.name)) ⟨i, 0, n⟩ = (a, ⟨k, 0, n⟩) := by
   unfold iU
   rw [oj hne, fa h1 (hw a (by simp)).1 (o6 hnot)]
   simp only
   rw [eH h3, h6]
  rw [fD, M_ rfl, hap]
  simp only
  cases al with
  | nil =>
   have e : x = ⟨#[41]⟩ ∧ qs = ps := by
    simp only [List.flatMap_nil, List.nil_append, List.cons.injEq, TP.sgn.injEq] at hq
    exact ⟨hq.1.symm, hq.2.symm⟩
   obtain ⟨rfl, rfl⟩ := e
   refine ⟨k, ?_, h7⟩
   rw [j' (aM (by simp) h7).1 (by decide) (by decide)]
   cases f with
   | zero => rfl
   | succ f => rw [fD, K_ (by simp)]
  | cons b al =>
   have e : x = ⟨#[44]⟩ ∧ qs = lj (b :: al) ++ .sgn ⟨#[41]⟩ :: ps := by
    rw [i_, o_, List.cons_append] at hq
    simp only [List.cons.injEq, TP.sgn.injEq] at hq
    refine ⟨hq.1.symm, ?_⟩
    rw [← hq.2]
    simp [lj]
   obtain ⟨rfl, rfl⟩ := e
   obtain ⟨h8, h9⟩ := aM (by simp) h7
   obtain ⟨k2, h10, h11⟩ := oo (b :: al) f (acc ++ [a]) ps (k + 1) (by simp) (fun c hc => hw c (by simp at hc ⊢; exact .inr hc)) (by simpa using hd) (by simpa using h4) (by simp at hf ⊢; omega) h9
   refine ⟨k2, ?_, h11⟩
   rw [iO h8, h10, o_]
   rfl
theorem vB {nm al} (hn : gl nm) (ha : vr al) (h : MA l (.nam nm :: .sgn ⟨#[40]⟩ :: (lj al ++ [.sgn ⟨#[41]⟩, .sgn ⟨#[59]⟩])) i j) : fh l ⟨i, 0, n⟩ = (.step nm al, ⟨j, 0, n⟩) := by
 obtain ⟨h1, h2⟩ := aM (by simp) h
 obtain ⟨h3, h4⟩ := aM (by simp) h2
 have hA : ∃ k, fD l 8 (!bj l ⟨#[41]⟩ ⟨i + 1 + 1, 0, n⟩) [] ⟨i + 1 + 1, 0, n⟩ = (al, ⟨k, 0, n⟩) ∧ MA l [.sgn ⟨#[41]⟩, .sgn ⟨#[59]⟩] k j := by
  by_cases h0 : al = []
  ·subst h0
   have h4 : MA l [.sgn ⟨#[41]⟩, .sgn ⟨#[59]⟩] (i + 1 + 1) j := h4
   refine ⟨_, ?_, h4⟩
   rw [sH (aM (by simp) h4).1, fD, K_ (by decide)]
  ·obtain ⟨k, h5, h6⟩ := oo (n := n) al 8 [] [.sgn ⟨#[59]⟩] (i + 1 + 1) h0 ha.2.2 ha.2.1 ha.1 (by have := ha.1; omega) h4
   refine ⟨k, ?_, h6⟩
   have hk : (ah l (i + 1 + 1)).kind ≠ 4 := by
    obtain ⟨a, l', rfl⟩ := m_ h0
    have h7 : MA l (.nam a.name :: _) (i + 1 + 1) j := h4
    rw [(aM (by simp) h7).1.1]
    decide
   rw [lA hk]
   exact h5
 obtain ⟨k, h5, h6⟩ := hA
 obtain ⟨h7, h8⟩ := aM (by simp) h6
 obtain ⟨h9, h10⟩ := aM (by simp) h8
 rw [MA] at h10
 subst h10
 unfold fh
 rw [fa h1 hn (by rfl)]
 simp only
 rw [eH h3]
 simp only [show ((0 : Int) == 0) = true from rfl, Bool.true_and]
 rw [h5]
 simp only
 rw [eH h7, eH h9]
theorem mJ {N} : ∀ ps : List Pc, cn ps ≤ N → et ps → ∀ p, p ∈ ps → cP p ≤ N ∧ jw p
 | [], _, _, p, hp => by simp at hp
 | q :: qs, h1, h2, p, hp => by
  rw [cn] at h1
  rw [et] at h2
  rcases List.mem_cons.1 hp with rfl | hp
  ·exact ⟨by omega, h2.1⟩
  ·exact mJ qs (by omega) h2.2 p hp
theorem sN (N) : ∀ p : Pc, cP p ≤ N → jw p → sM l (cE l N) p := by
 induction N with
 | zero =>
  intro p h
  have : 1 ≤ cP p := by cases p <;> simp only [cP] <;> omega
  omega
 | succ N ih =>
  intro p hN hw i j n h0 h hn hne
  have hwd := kN h
  have hb : ∀ (ps : List Pc) (i j n : Int), cn ps ≤ N → et ps → MA l (kO ps) i j → n + cn ps ≤ 24 → 0 ≤ n → az l (cE l N) ⟨i, 0, n⟩ = (ps, ⟨j, 0, n + cn ps⟩) := fun ps i j n h1 h2 h3 h4 h5 =>
   mI (fun p hp => have h6 := mJ ps h1 h2 p hp; ih p h6.1 h6.2) h3 h4 h5
  rw [cE]
  simp only
  rw [hwd.2]
  cases p with
  | row k us kids =>
   rw [jw] at hw
   rw [cP] at hN hn ⊢
   have e : n + 1 + (cn kids : Int) = n + ((1 + cn kids : Nat) : Int) := by omega
   have h : MA l (fI k us ++ kO kids) i j := by rw [kg] at h; exact h
   rcases hw.1 with ⟨rfl | rfl, rfl⟩ | ⟨rfl, hu⟩
   ·have h : MA l ([.key kp] ++ kO kids) i j := h
    obtain ⟨h1, h2⟩ := aM (by simp) h
    show df l (az l (cE l N)) kp ⟨i, 0, n⟩ = _
    unfold df
    rw [M_ (by decide)]
    rw [ev (by omega), cV h1.2]
    simp only
    rw [hb kids _ _ _ (by omega) hw.2 h2 (by omega) (by omega), K_ (by decide), e]
   ·have h : MA l ([.key jb] ++ kO kids) i j := h
    obtain ⟨h1, h2⟩ := aM (by simp) h
    show df l (az l (cE l N)) jb ⟨i, 0, n⟩ = _
    unfold df
    rw [M_ (by decide)]
    rw [ev (by omega), cV h1.2]
    simp only
    rw [hb kids _ _ _ (by omega) hw.2 h2 (by omega) (by omega), M_ (by decide), e]
   ·obtain ⟨u, us, rfl⟩ := m_ hu.1
    have h : MA l (.key dH :: .nam u :: (us.flatMap (fun v => [.sgn ⟨#[44]⟩, .nam v]) ++ kO kids)) i j := by
     have e : fI 2 (u :: us) ++ kO kids = .key dH :: .nam u :: (us.flatMap (fun v => [.sgn ⟨#[44]⟩, .nam v]) ++ kO kids) := by simp [fI, AM]
     rwa [e] at h
    obtain ⟨h1, h2⟩ := aM (by simp) h
    obtain ⟨h3, h4⟩ := aM (by simp) h2
    obtain ⟨k, h5, h6⟩ := om (n := n + 1) us 8 [u] _ (i + 1 + 1) (fun v hv => hu.2.2.2 v (by simp [hv])) hu.2.2.1 hu.2.1 (by have := hu.2.1; simp at this; omega) h4
    show df l (az l (cE l N)) dH ⟨i, 0, n⟩ = _
    unfold df
    rw [K_ (by decide), M_ (by decide)]
    rw [ev (by omega), cV h1.2]
    simp only
    rw [fa h3 (hu.2.2.2 u (by simp)) (by rfl)]
    simp only
    rw [h5]
    simp only
    rw [hb kids _ _ _ (by omega) hw.2 h6 (by omega) (by omega), e]
    rfl
  | choice e a b =>
   rw [jw] at hw
   rw [cP] at hN hn ⊢
   have hi : ((((n + 3 + (cn a : Int)) + (cn b : Int)))) = n + ((3 + (cn a + cn b) : Nat) : Int) := by omega
   show df l (az l (cE l N)) lM ⟨i, 0, n⟩ = _
   have hx : ∃ rest, kg (.choice e a b) = .key lM :: .ex e :: .sgn ⟨#[123]⟩ :: rest := ⟨_, by rw [kg]; rfl⟩
   unfold df
   rw [K_ (by decide), K_ (by decide), M_ (by decide)]
   by_cases hbn : b = []
   ·subst hbn
    have h : MA l (.key lM :: .ex e :: kO a) i j := by
     have e1 : kg (.choice e a []) = .key lM :: .ex e :: kO a := by rw [kg]; simp [kO]
     rwa [e1] at h
    obtain ⟨h1, h2⟩ := aM (by simp) h
    obtain ⟨k, h3, h4⟩ := o7 (n := n + 3) hw.1 h2 (.inl rfl)
    rw [ev (by omega), cV h1.2]
    simp only
    rw [h3]
    simp only
    rw [hb a _ _ _ (by omega) hw.2.1 h4 (by omega) (by omega)]
    simp only
    rw [hne]
    simp only
    rw [K_ (by decide), ← hi]
    simp [cn]
   ·have h : MA l (.key lM :: .ex e :: (kO a ++ (.key ct :: kO b))) i j := by
     have e1 : kg (.choice e a b) = .key lM :: .ex e :: (kO a ++ (.key ct :: kO b)) := by
      rw [kg, K_ (by simpa using hbn)]; simp [kO]
     rwa [e1] at h
    obtain ⟨h1, h2⟩ := aM (by simp) h
    obtain ⟨k, h3, h4⟩ := o7 (n := n + 3) hw.1 h2 (.inl rfl)
    obtain ⟨k2, h5, h6⟩ := kL.1 (show MA l (kO a ++ (.key ct :: kO b)) k j from h4)
    obtain ⟨h7, h8⟩ := aM (by simp) h6
    rw [ev (by omega), cV h1.2]
    simp only
    rw [h3]
    simp only
    rw [hb a _ _ _ (by omega) hw.2.1 h5 (by omega) (by omega)]
    simp only
    rw [cV h7.2]
    simp only
    rw [M_ trivial, hb b _ _ _ (by omega) hw.2.2 h8 (by omega) (by omega), hi]
  | step nm al =>
   rw [jw] at hw
   rw [cP] at hN hn ⊢
   have h : MA l (.key cW :: .nam nm :: .sgn ⟨#[40]⟩ :: (lj al ++ [.sgn ⟨#[41]⟩, .sgn ⟨#[59]⟩])) i j := by
    have e1 : kg (.step nm al) = .key cW :: .nam nm :: .sgn ⟨#[40]⟩ :: (lj al ++ [.sgn ⟨#[41]⟩, .sgn ⟨#[59]⟩]) := by rw [kg, mD]; simp
    rwa [e1] at h
   obtain ⟨h1, h2⟩ := aM (by simp) h
   show df l (az l (cE l N)) cW ⟨i, 0, n⟩ = _
   unfold df
   rw [K_ (by decide), K_ (by decide), K_ (by decide), M_ (by decide)]
   rw [ev (by omega), cV h1.2]
   simp only
   rw [vB hw.1 hw.2 h2]
   rfl
end
def gU (l : List aZ) : Prop := ∀ i, (ah l i).kind ≠ 0 → eP (ah l i)
theorem zv {s} (h : (cd s).2.1 = 0) : gU (cd s).1 := by
 obtain ⟨_, ks, a, hc, hg⟩ := uD h
 rw [hc]
 intro i hi
 unfold ah at hi ⊢
 split
 ·rename_i h0
  rw [M_ h0] at hi
  exact absurd rfl hi
 ·rename_i h0
  rw [K_ h0] at hi
  rw [S_] at hi ⊢
  cases hh : (ks ++ [(⟨0, ⟨#[]⟩, 0, a⟩ : aZ)])[i.toNat]? with
  | none => rw [hh] at hi; exact absurd rfl hi
  | some t =>
   rw [hh] at hi
   have hm := List.mem_of_getElem? hh
   rcases G_ hm with hm | hm
   ·exact hg t hm
   ·simp at hm
    subst hm
    exact absurd rfl hi
theorem xS {x} (h : pd x aU = true) : x.size ≠ 0 := by
 unfold pd at h
 rw [List.any_eq_true] at h
 obtain ⟨y, hy, h⟩ := h
 rw [aQ] at h
 subst h
 simp only [aU, List.mem_cons, List.not_mem_nil, or_false] at hy
 rcases hy with rfl | rfl | rfl | rfl | rfl | rfl | rfl | rfl | rfl <;> decide
section
variable {l : List aZ} {s : RS} {m : Int} {nd : RS → Pc × RS}
theorem kP (hW : gU l) {had} (h : (aI l had s).2.bad = 0) : s.bad = 0 ∧ gl (aI l had s).1 ∧ (aI l had s).1 ∉ had ∧ (aI l had s).2 = cK s := by
 unfold aI at h ⊢
 by_cases hb : s.bad = 0
 ·rw [K_ (by simpa using hb)] at h ⊢
  by_cases hn : eL l s = false
  ·rw [M_ hn] at h; exact absurd h (bu (by decide) s)
  ·rw [K_ hn] at h ⊢
   by_cases hi : pd (ah l s.at_).text had = true
   ·rw [M_ hi] at h; exact absurd h (bu (by decide) s)
   ·rw [K_ hi]
    have hn : eL l s = true := by simpa using hn
    unfold eL at hn
    rw [a_, beq_iff_eq, beq_iff_eq] at hn
    have hg := hW s.at_ (by rw [hn.1]; decide)
    refine ⟨hb, ⟨hg.2.1.2 hn.1, ?_⟩, fun hc => hi ?_, rfl⟩
    ·refine E_ (fun hc => xS hc ?_)
     have h2 := hn.2
     unfold dd at h2
     rw [M_ ⟨hn.1, hc⟩] at h2
     exact h2
    ·unfold pd
     rw [List.any_eq_true]
     exact ⟨_, hc, aQ.2 rfl⟩
 ·rw [M_ hb] at h; exact absurd h hb
theorem iP {x} (hx : x.size ≠ 0) (h : (aj l x s).1 = true) : s.bad = 0 ∧ (aj l x s).2 = cK s := by
 refine ⟨jj hx h, ?_⟩
 unfold aj at h ⊢
 split
 ·rfl
 ·rename_i hc; rw [K_ hc] at h; exact absurd h (by simp)
theorem gM {x} (hx : x.size ≠ 0) (h : (aN l x s).bad = 0) : s.bad = 0 ∧ (aN l x s).at_ = s.at_ + 1 := by
 unfold aN at h ⊢
 by_cases ht : (aj l x s).1 = true
 ·rw [M_ ht] at h ⊢
  have := iP hx ht
  rw [this.2]
  exact ⟨this.1, rfl⟩
 ·rw [K_ ht] at h
  exact absurd h (bu (by decide) _)
theorem zw {o} (h : (aP o s).bad = 0) : s.bad = 0 ∧ aP o s = ⟨s.at_, 0, s.nodes + o⟩ := by
 unfold aP at h ⊢
 split at h
 ·exact absurd h (bu (by decide) _)
 ·rename_i hc
  have hb : s.bad = 0 := h
  rw [K_ hc, hb]
  exact ⟨rfl, rfl⟩
theorem xT (hW : gU l) (h : (dq l s).2.bad = 0) : s.bad = 0 ∧ yv (dq l s).1 ∧ s.at_ + ej (dq l s).1 ≤ (dq l s).2.at_ := by
 unfold dq at h ⊢
 by_cases hb : s.bad = 0
 ·rw [K_ (by simpa using hb)] at h ⊢
  obtain ⟨ts, h1, h2, h3, h4⟩ := pR h
  have hg : ∀ t, t ∈ ts → eP t := fun t ht => by
   obtain ⟨j, hj, rfl⟩ := List.getElem_of_mem ht
   have hk := wP h1 ts[j] ht
   rw [← h2 j hj] at hk ⊢
   exact hW _ hk
  have h5 := yN h1
  refine ⟨hb, ⟨zX h1 (fun t ht => (hg t ht).2.1), zZ h1 hg, by show ej (cZ l s.at_).1 ≤ 64; omega⟩, ?_⟩
  show s.at_ + (ej (cZ l s.at_).1 : Int) ≤ (cZ l s.at_).2.2
  rw [h3]
  omega
 ·rw [M_ hb] at h; exact absurd h hb
theorem xU {a : Nat} {b : Int} (h : (c9 l a b s).bad = 0) : s.bad = 0 ∧ c9 l a b s = s := by
 unfold c9 at h ⊢
 split at h
 ·exact absurd h (bu (by decide) s)
 ·rename_i hc; rw [K_ hc]; exact ⟨h, rfl⟩
theorem tO (hW : gU l) : ∀ (f : Nat) (us : List ByteArray) (s : RS), AL us → (de l f us s).2.bad = 0 → AL (de l f us s).1 ∧ s.bad = 0 ∧ s.at_ + 2 * ((de l f us s).1.length : Int) ≤ (de l f us s).2.at_ + 2 * us.length
 | 0, us, s, hu, h => ⟨hu, h, by simp only [de]; omega⟩
 | f + 1, us, s, hu, h => by
  rw [de] at h ⊢
  by_cases ht : (aj l ⟨#[44]⟩ s).1 = true
  ·rw [M_ ht] at h ⊢
   obtain ⟨hb, h2⟩ := iP (by decide) ht
   obtain ⟨s2, hs2⟩ := nm_ ((aj l ⟨#[44]⟩ s).2)
   rw [hs2] at h h2 ⊢
   have hfull := jk (l := l) (had := us) (most := 5) (s := s2)
   obtain ⟨t, ht2⟩ := nm_ (aI l us (c9 l us.length 5 s2))
   have hnw := kP (l := l) (s := c9 l us.length 5 s2) hW (had := us)
   rw [ht2] at h hfull hnw ⊢
   simp only at h ⊢
   have h3 : t.2.bad = 0 := (mF f (us ++ [t.1]) t.2 h).1
   obtain ⟨h4, h5, h6, h7⟩ := hnw h3
   obtain ⟨_, h8⟩ := xU h4
   have h9 : us.length ≠ 5 := fun hc => hfull (by omega) h3
   obtain ⟨hu1, hu2, hu3, hu4⟩ := hu
   have hu' : AL (us ++ [t.1]) := ⟨by simp, by simp; omega, List.nodup_append.2 ⟨hu3, by simp, fun a ha b hb => by simp at hb; subst hb; rintro rfl; exact h6 ha⟩, fun u hu => by
    rcases G_ hu with hu | hu
    ·exact hu4 u hu
    ·simp at hu; subst hu; exact h5⟩
   obtain ⟨g1, g2, g3⟩ := tO hW f (us ++ [t.1]) t.2 hu' h
   refine ⟨g1, hb, ?_⟩
   have hat : t.2.at_ = s.at_ + 2 := by rw [h7, h8, h2]; simp only [cK]; omega
   simp only [O_, P_, b_] at g3
   omega
  ·rw [K_ ht] at h ⊢
   have h0 : (aj l ⟨#[44]⟩ s).2 = s := gm (by simpa using ht)
   rw [h0] at h ⊢
   exact ⟨hu, h, by simp only; omega⟩
theorem Aj (hW : gU l) {had} (h : (iU l had s).2.bad = 0) : s.bad = 0 ∧ had.length ≠ 4 ∧ gl (iU l had s).1.name ∧ (iU l had s).1.name ∉ had ∧ yv (iU l had s).1.e ∧ s.at_ + 2 + ej (iU l had s).1.e ≤ (iU l had s).2.at_ := by
 have hfull := nG (l := l) (had := had) (s := s)
 unfold iU at h hfull ⊢
 simp only at h hfull ⊢
 have h1 := xT hW h
 have h2 := gM (by decide) h1.1
 have h3 := kP hW h2.1
 have h4 := xU h3.1
 have h5 := h1.2.2
 have h6 : (aI l had (c9 l had.length 4 s)).2.at_ = s.at_ + 1 := by rw [h3.2.2.2, h4.2]; rfl
 have h7 := h2.2
 exact ⟨h4.1, fun hc => hfull hc h, h3.2.1, h3.2.2.1, h1.2.1, by omega⟩
theorem zx (al a) : aB (lj (al ++ [a])) = aB (lj al) + (if al.isEmpty = true then 0 else 1) + 2 + ej a.e := by
 cases al with
 | nil => simp [lj, xO, aB, TP.cost]; omega
 | cons b al =>
  rw [List.cons_append, lj, lj, p_, ← o_, bo]
  simp [xO, aB, TP.cost]
  omega
theorem xV (hW : gU l) : ∀ (f : Nat) (q : Bool) (al : List Ar) (s : RS) (b : Int), vr al → (q = true → b + aB (lj al) + (if al.isEmpty = true then 0 else 1) ≤ s.at_) → b + aB (lj al) ≤ s.at_ → (fD l f q al s).2.bad = 0 →
  vr (fD l f q al s).1 ∧ s.bad = 0 ∧ b + aB (lj (fD l f q al s).1) ≤ (fD l f q al s).2.at_
 | 0, q, al, s, b, ha, _, h1, h => ⟨ha, h, h1⟩
 | f + 1, q, al, s, b, ha, hq, h1, h => by
  rw [fD] at h ⊢
  by_cases hqt : q = true
  ·rw [M_ hqt] at h ⊢
   have hq := hq hqt
   obtain ⟨a, hap⟩ := nm_ (iU l (al.map (·.name)) s)
   have hw := Aj (l := l) (s := s) hW (had := al.map (·.name))
   rw [hap] at h hw ⊢
   obtain ⟨c, hc⟩ := nm_ (aj l ⟨#[44]⟩ a.2)
   have htw := iP (l := l) (s := a.2) (x := ⟨#[44]⟩) (by decide)
   have htn := gm (l := l) (s := a.2) (x := ⟨#[44]⟩)
   have htc := eu (l := l) (s := a.2) (x := ⟨#[44]⟩)
   simp only at h ⊢
   rw [hc] at h htw htn htc ⊢
   have h2 : c.2.bad = 0 := (qP f c.1 (al ++ [a.1]) c.2 h).1
   obtain ⟨h3, h4, h5, h6, h7, h8⟩ := hw (htc h2).1
   have hm := zx al a.1
   have ha' : vr (al ++ [a.1]) := by
    obtain ⟨a1, a2, a3⟩ := ha
    refine ⟨?_, ?_, fun x hx => ?_⟩
    ·rw [U_] at h4
     simp only [O_, P_, b_]; omega
    ·rw [f_]
     refine List.nodup_append.2 ⟨a2, by simp, fun x hx y hy => ?_⟩
     simp at hy
     subst hy
     rintro rfl
     exact h6 hx
    ·rcases G_ hx with hx | hx
     ·exact a3 x hx
     ·simp at hx; subst hx; exact ⟨h5, h7⟩
   have hat : a.2.at_ ≤ c.2.at_ ∧ (c.1 = true → a.2.at_ + 1 ≤ c.2.at_) := by
    by_cases hc1 : c.1 = true
    ·rw [(htw hc1).2]; exact ⟨by simp only [cK]; omega, fun _ => by simp only [cK]; omega⟩
    ·rw [htn (by simpa using hc1)]; exact ⟨l_ _, fun hd => absurd hd hc1⟩
   have hmz : ((aB (lj (al ++ [a.1])) : Nat) : Int) = aB (lj al) + (if al.isEmpty = true then 0 else 1) + 2 + ej a.1.e := by
    rw [hm]; split <;> omega
   obtain ⟨z, hz⟩ : ∃ z : Int, (if al.isEmpty = true then (0 : Int) else 1) = z := ⟨_, rfl⟩
   rw [hz] at hq hmz
   have he : (al ++ [a.1]).isEmpty = false := by simp
   obtain ⟨g1, g2, g3⟩ := xV hW f c.1 (al ++ [a.1]) c.2 b ha' (fun hc1 => by
    have := hat.2 hc1
    rw [hmz, he, K_ (by decide)]
    omega) (by
    rw [hmz]
    have := hat.1
    omega) h
   exact ⟨g1, h3, g3⟩
  ·rw [K_ hqt] at h ⊢
   exact ⟨ha, h, h1⟩
theorem Ak (hW : gU l) (h : (fh l s).2.bad = 0) : s.bad = 0 ∧ jw (fh l s).1 ∧ s.at_ + aB (kg (fh l s).1) ≤ (fh l s).2.at_ + 1 := by
 unfold fh at h ⊢
 simp only at h ⊢
 have h1 := gM (by decide) h
 have h2 := gM (by decide) h1.1
 obtain ⟨b, hb⟩ := nm_ (aN l ⟨#[40]⟩ (aI l [] s).2)
 have hm := gM (l := l) (s := (aI l [] s).2) (x := ⟨#[40]⟩) (by decide)
 rw [hb] at h h1 h2 hm ⊢
 obtain ⟨q, hq⟩ := nm_ (b.bad == 0 && !bj l ⟨#[41]⟩ b)
 rw [hq] at h h1 h2 ⊢
 have h3 := xV hW 8 q [] b b.at_ ⟨by simp, by simp, fun a ha => by simp at ha⟩ (fun _ => by simp [lj, aB]) (by simp [lj, aB]) h2.1
 have h4 := hm h3.2.1
 have h5 := kP hW h4.1
 refine ⟨h5.1, by rw [jw]; exact ⟨h5.2.1, h3.1⟩, ?_⟩
 have h6 := h3.2.2
 have h7 : (aI l [] s).2.at_ = s.at_ + 1 := by rw [h5.2.2.2]; rfl
 rw [h1.2, h2.2]
 rw [h4.2, h7] at h6
 rw [kg, mD]
 simp only [bo, aB, TP.cost]
 omega
def kb (l : List aZ) (m : Int) (nd : RS → Pc × RS) : Prop := ∀ s, fE l s → s.bad = 0 → m ≤ s.nodes → (nd s).2.bad = 0 → jw (nd s).1 ∧ s.at_ + aB (kg (nd s).1) ≤ (nd s).2.at_
theorem qR : ∀ a b : List Pc, dO (a ++ b) = dO a ++ dO b
 | [], b => by rw [dO]; rfl
 | p :: a, b => by rw [List.cons_append, dO, dO, qR a b, o_]
theorem qS : ∀ (a b : List Pc), et a → et b → et (a ++ b)
 | [], _, _, h => h
 | p :: a, b, h, k => by
  rw [et] at h
  rw [List.cons_append, et]
  exact ⟨h.1, qS a b h.2 k⟩
theorem qT (hon : dt l m nd) (hg : kb l m nd) : ∀ (f : Nat) (ps : List Pc) (s : RS), fE l s → m ≤ s.nodes → et ps → (bJ l nd f ps s).2.bad = 0 → et (bJ l nd f ps s).1 ∧ s.bad = 0 ∧ s.at_ + aB (dO (bJ l nd f ps s).1) ≤ (bJ l nd f ps s).2.at_ + aB (dO ps)
 | 0, ps, s, _, _, hp, h => ⟨hp, h, l_ _⟩
 | f + 1, ps, s, hi, hm, hp, h => by
  rw [bJ] at h ⊢
  by_cases hc : s.bad = 0 ∧ bj l ⟨#[125]⟩ s = false
  ·rw [M_ hc] at h ⊢
   have h1 := hon s hi hc.1 hm
   have h2 := hg s hi hc.1 hm
   obtain ⟨x, hx⟩ := nm_ (nd s)
   rw [hx] at h h1 h2 ⊢
   have hb := partsF_cnt0 f (ps ++ [x.1]) x.2 h
   have h3 := h2 hb
   obtain ⟨g1, g2, g3⟩ := qT hon hg f (ps ++ [x.1]) x.2 h1.1.1 (j_ hm h1.1.2) (qS ps [x.1] hp (by rw [et, et]; exact ⟨h3.1, trivial⟩)) h
   refine ⟨g1, hc.1, ?_⟩
   rw [qR ps [x.1], bo] at g3
   have e : dO [x.1] = kg x.1 := by rw [dO, dO, List.append_nil]
   rw [e] at g3
   have := h3.2
   omega
  ·rw [K_ hc] at h ⊢
   exact ⟨hp, h, l_ _⟩
where
 partsF_cnt0 : ∀ (f : Nat) (ps : List Pc) (s : RS), (bJ l nd f ps s).2.bad = 0 → s.bad = 0
  | 0, _, _, h => h
  | f + 1, ps, s, h => by
   rw [bJ] at h
   by_cases hc : s.bad = 0 ∧ bj l ⟨#[125]⟩ s = false
   ·exact hc.1
   ·rw [K_ hc] at h; exact h
theorem ke (hl : fF l) (hon : dt l m nd) (hg : kb l m nd) (hi : fE l s) (hm : m ≤ s.nodes) (h : (az l nd s).2.bad = 0) : s.bad = 0 ∧ et (az l nd s).1 ∧ s.at_ + aB (kO (az l nd s).1) ≤ (az l nd s).2.at_ := by
 unfold az at h ⊢
 simp only at h ⊢
 have h1 := gM (by decide) h
 have h0 := bg hl ⟨#[123]⟩ (by decide) hi
 have h2 := qT hon hg 30 [] _ h0.1 (j_ hm h0.2) (by rw [et]; trivial) h1.1
 have h3 := gM (by decide) h2.2.1
 refine ⟨h3.1, h2.1, ?_⟩
 have h4 := h2.2.2
 rw [h3.2] at h4
 rw [h1.2]
 unfold kO
 simp only [bo, aB, TP.cost, dO] at h4 ⊢
 omega
end
end Go.Proofs.YtgcfjkfipkfijaaGreatDoor
