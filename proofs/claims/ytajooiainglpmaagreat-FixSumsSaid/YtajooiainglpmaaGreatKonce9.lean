/-
  PLAIN LAWS of constraints together: the greatest sets at which none says anything new; no program.
  (*fix.queue).Less; container/heap's up and down, walked.
  container/heap's up, walked: what waits is moved about, nothing is lost.
  container/heap's down, walked.
  container/heap's Push and Pop, walked.
  (*fix.queue).wait and next, walked: the queue with its map.
-/
import Derived.Test.YtajooiainglpmaaGreatKonce3
import Derived.Test.YtajooiainglpmaaGreatKonce8
import Derived.Test.YtajooiainglpmaaGreatKfix1
namespace Go.Proofs.YtajooiainglpmaaGreat

/-- the places that wait are constraints' -/
def InPs (L : List Int) (ps : List PL) : Prop := ∀ i ∈ L, 0 ≤ i ∧ i.toNat < ps.length
def LeD (a b : Ds) : Prop := ∀ j x, memL (a.getD j []) x = true → memL (b.getD j []) x = true
theorem LeD.refl (a : Ds) : LeD a a := fun _ _ h => h
theorem LeD.trans {a b c : Ds} (h : LeD a b) (g : LeD b c) : LeD a c := fun j x hx => g j x (h j x hx)
theorem LeD.eq {a b : Ds} (hl : a.length = b.length) (ha : AllN a) (hb : AllN b) (h : LeD a b) (g : LeD b a) : a = b :=
  ds_ext hl ha hb fun j _ x => by rw [Bool.eq_iff_iff]; exact ⟨h j x, g j x⟩
/-- no set is empty -/
def AllE (a : Ds) : Prop := ∀ j, j < a.length → a.getD j [] ≠ []
/-- sets at which no constraint says anything new -/
structure Common (ps : List PL) (D e : Ds) : Prop where
  len : e.length = D.length
  nor : AllN e
  non : AllE e
  sub : LeD e (D.map norm)
  fix : ∀ p ∈ ps, onceP p e = some e
def FixOf (ps : List PL) (D : Ds) : Option Ds → Prop
  | some r => Common ps D r ∧ ∀ e, Common ps D e → LeD e r
  | none => ∀ e, ¬ Common ps D e
theorem fixOf_unique {ps : List PL} {D : Ds} : ∀ {R R' : Option Ds}, FixOf ps D R → FixOf ps D R' → R = R'
  | none, none, _, _ => rfl
  | none, some r, h, h' => absurd h'.1 (h r)
  | some r, none, h, h' => absurd h.1 (h' r)
  | some _, some _, h, h' => by rw [LeD.eq (h.1.len.trans h'.1.len.symm) h.1.nor h'.1.nor (h'.2 _ h.1) (h.2 _ h'.1)]
theorem Common.of_sub {ps qs : List PL} {D e : Ds} (hm : ∀ p ∈ qs, p ∈ ps) (h : Common ps D e) : Common qs D e := ⟨h.len, h.nor, h.non, h.sub, fun p hp => h.fix p (hm p hp)⟩
theorem fixOf_congr {ps qs : List PL} {D : Ds} (hm : ∀ p, p ∈ ps ↔ p ∈ qs) : ∀ {R : Option Ds}, FixOf ps D R → FixOf qs D R
  | none, h => fun e he => h e (he.of_sub fun p hp => (hm p).1 hp)
  | some _, h => ⟨h.1.of_sub fun p hp => (hm p).2 hp, fun e he => h.2 e (he.of_sub fun p hp => (hm p).1 hp)⟩
/-- on the way there -/
structure OnWay (ps : List PL) (D now : Ds) : Prop where
  len : now.length = D.length
  nor : AllN now
  non : AllE now
  sub : LeD now (D.map norm)
  big : ∀ e, Common ps D e → LeD e now
theorem onWay_start {ps : List PL} {D : Ds} (h : AllE (D.map norm)) : OnWay ps D (D.map norm) := ⟨by simp, allN_norm D, h, LeD.refl _, fun _ he => he.sub⟩
theorem onWay_none {ps : List PL} {D : Ds} {j : Nat} (hj : j < D.length) (h : norm (D.getD j []) = []) : FixOf ps D none := fun e he => by
  have hj' : j < e.length := by rw [he.len]; exact hj
  obtain ⟨x, hx⟩ := normal_some (he.nor j) (he.non j hj')
  have := he.sub j x hx
  rw [getD_map_norm, h] at this
  simp [memL] at this
/-- what a constraint says once of e lies in what it says of greater sets -/
theorem once_big {p : PL} {e now : Ds} (hg : p.Good e.length) (hl : e.length = now.length) (he : AllN e) (hn : AllN now) (h : LeD e now) (hf : onceP p e = some e) : ∃ d, onceP p now = some d ∧ LeD e d :=
  onceP_mono hg hl (by rw [norm_getD he, norm_getD hn]; exact h) hf
theorem onWay_step {ps : List PL} {D now d : Ds} {p : PL} (hp : p ∈ ps) (hg : p.Good D.length) (h : OnWay ps D now) (ho : onceP p now = some d) : OnWay ps D d := by
  have hl := onceP_len ho
  have hn := norm_getD h.nor
  obtain ⟨h1, ks, _, _, h2⟩ := onceP_parts ho
  refine ⟨hl.trans h.len, onceP_normal ho, fun j hj => ?_, fun j x hx => ?_, fun e he => ?_⟩
  · by_cases hv : ∃ v ∈ p.all, v.toNat = j
    · obtain ⟨v, hv1, rfl⟩ := hv
      exact (anyNil_false.1 h2) v hv1
    · rw [onceP_other (by rw [h.len]; exact hg) ho (fun v hv1 e => hv ⟨v, hv1, e⟩), hn]
      exact h.non j (by omega)
  · have := onceP_sub ho j x hx
    rw [hn] at this
    exact h.sub j x this
  · obtain ⟨d', h3, h4⟩ := once_big (by rw [he.len]; exact hg) (he.len.trans h.len.symm) he.nor h.nor (h.big e he) (he.fix p hp)
    rw [ho] at h3
    cases h3
    exact h4
theorem onWay_gone {ps : List PL} {D now : Ds} {p : PL} (hp : p ∈ ps) (hg : p.Good D.length) (h : OnWay ps D now) (ho : onceP p now = none) : FixOf ps D none := fun e he => by
  obtain ⟨d', h3, _⟩ := once_big (by rw [he.len]; exact hg) (he.len.trans h.len.symm) he.nor h.nor (h.big e he) (he.fix p hp)
  rw [ho] at h3
  cases h3
theorem onWay_end {ps : List PL} {D now : Ds} (h : OnWay ps D now) (hs : ∀ p ∈ ps, onceP p now = some now) : FixOf ps D (some now) := ⟨⟨h.len, h.nor, h.non, h.sub, hs⟩, h.big⟩
theorem fixOf_again {ps : List PL} {D a : Ds} (h : FixOf ps D (some a)) : FixOf ps a (some a) := by
  obtain ⟨h1, _⟩ := h
  have hn := norm_getD h1.nor
  exact ⟨⟨rfl, h1.nor, h1.non, by rw [hn]; exact LeD.refl _, h1.fix⟩, fun e he => by have := he.sub; rwa [hn] at this⟩
/-- of some of the constraints alone they come to no smaller sets -/
theorem fixOf_part {ps qs : List PL} {D a : Ds} (hm : ∀ p ∈ qs, p ∈ ps) (h : FixOf ps D (some a)) : ∀ {R : Option Ds}, FixOf qs D R → ∃ c, R = some c ∧ LeD a c
  | none, h' => absurd (h.1.of_sub hm) (h' a)
  | some c, h' => ⟨c, rfl, h'.2 a (h.1.of_sub hm)⟩
theorem fixOf_part_none {ps qs : List PL} {D : Ds} (hm : ∀ p ∈ qs, p ∈ ps) {R : Option Ds} (h : FixOf ps D R) (h' : FixOf qs D none) : R = none := by
  cases R with
  | none => rfl
  | some a => exact absurd (h.1.of_sub hm) (h' a)
/-- values of the domains for which all hold are kept -/
theorem common_single {ps : List PL} {D : Ds} {x : List Int} (hg : ∀ p ∈ ps, p.Lin D.length) (hb : ∀ v ∈ x, -200 ≤ v ∧ v ≤ 200) (hx : Has (D.map norm) x) (hh : ∀ p ∈ ps, holdsP p x = true) : Common ps D (single x) := by
  have hl : x.length = D.length := by have := hx.1; simpa using this
  refine ⟨by rw [single_len]; exact hl, single_allN hb, fun j hj => ?_, fun j z hz => ?_, fun p hp => ?_⟩
  · rw [single_len] at hj
    rw [single_at hj]; simp
  · by_cases hj : j < x.length
    · rw [single_at hj, one_mem, decide_eq_true_eq] at hz
      subst hz
      exact hx.2 j (by simp; omega)
    · rw [List.getD_eq_getElem?_getD, List.getElem?_eq_none (by rw [single_len]; omega)] at hz
      simp [memL] at hz
  · rw [onceP_single (by rw [hl]; exact hg p hp) hb, if_pos (hh p hp)]
theorem fixOf_keeps {ps : List PL} {D : Ds} {x : List Int} (hg : ∀ p ∈ ps, p.Lin D.length) (hb : ∀ v ∈ x, -200 ≤ v ∧ v ≤ 200) (hx : Has (D.map norm) x) (hh : ∀ p ∈ ps, holdsP p x = true) : ∀ {R : Option Ds}, FixOf ps D R → ∃ r, R = some r ∧ r.length = D.length ∧ AllN r ∧ ∀ j, j < D.length → memL (r.getD j []) (x.getD j 0) = true
  | none, h => absurd (common_single hg hb hx hh) (h _)
  | some r, h => by
    have hl : x.length = D.length := by have := hx.1; simpa using this
    refine ⟨r, rfl, h.1.len, h.1.nor, fun j hj => h.2 _ (common_single hg hb hx hh) j _ ?_⟩
    rw [single_at (by omega), one_mem]; simp
/-- where each domain has one integer -/
theorem fixOf_single {ps : List PL} {y : List Int} (hg : ∀ p ∈ ps, p.Lin y.length) (hb : ∀ v ∈ y, -200 ≤ v ∧ v ≤ 200) {R : Option Ds} (h : FixOf ps (single y) R) : ((∀ p ∈ ps, holdsP p y = true) → R = some (single y)) ∧ ((¬ ∀ p ∈ ps, holdsP p y = true) → R = none) := by
  have hsn := single_norm hb
  have huni : ∀ e, Common ps (single y) e → e = single y := fun e he => by
    have hl : e.length = y.length := by rw [he.len, single_len]
    refine LeD.eq (by rw [hl, single_len]) he.nor (single_allN hb) (by have := he.sub; rwa [hsn] at this) (fun j x hx => ?_)
    by_cases hj : j < y.length
    · rw [single_at hj, one_mem, decide_eq_true_eq] at hx
      subst hx
      obtain ⟨z, hz⟩ := normal_some (he.nor j) (he.non j (by omega))
      have h2 := he.sub j z hz
      rw [hsn, single_at hj, one_mem, decide_eq_true_eq] at h2
      rw [← h2]; exact hz
    · rw [List.getD_eq_getElem?_getD, List.getElem?_eq_none (by rw [single_len]; omega)] at hx
      simp [memL] at hx
  constructor
  · intro hh
    have hc := common_single (D := single y) (by rw [single_len]; exact hg) hb (by rw [hsn]; exact single_has) hh
    cases R with
    | none => exact absurd hc (h _)
    | some r => rw [huni r h.1]
  · intro hn
    cases R with
    | none => rfl
    | some r =>
      exfalso
      apply hn
      intro p hp
      have := h.1.fix p hp
      rw [huni r h.1, onceP_single (hg p hp) hb] at this
      by_cases hh : holdsP p y = true
      · exact hh
      · rw [if_neg hh] at this; cases this

/-! ### how many integers there are yet -/
theorem cnt_le {S T : Int → Bool} (h : ∀ x, S x = true → T x = true) : ∀ (k : Nat) (n : Int), cnt S k n ≤ cnt T k n
  | 0, _ => Int.le_refl _
  | k + 1, n => by
    have := cnt_le h k (n + 1)
    unfold cnt
    by_cases hs : S n = true
    · rw [if_pos hs, if_pos (h n hs)]; omega
    · rw [if_neg hs]; split <;> omega
theorem cnt_lt {S T : Int → Bool} (h : ∀ x, S x = true → T x = true) {x : Int} (hT : T x = true) (hS : S x = false) : ∀ (k : Nat) (n : Int), n ≤ x → x < n + k → cnt S k n < cnt T k n
  | 0, _, h1, h2 => by omega
  | k + 1, n, h1, h2 => by
    unfold cnt
    by_cases e : n = x
    · subst e
      have := cnt_le h k (n + 1)
      rw [hT, hS]; simp; omega
    · have := cnt_lt h hT hS k (n + 1) (by omega) (by omega)
      by_cases hs : S n = true
      · rw [if_pos hs, if_pos (h n hs)]; omega
      · rw [if_neg hs]; split <;> omega
def sizeN (d : List Rg) : Nat := (cnt (memL d) 401 (-200)).toNat
def tot (a : Ds) : Nat := (a.map sizeN).sum
theorem sizeN_le401 (d : List Rg) : sizeN d ≤ 401 := by have := cnt_nonneg (memL d) 401 (-200); unfold sizeN; omega
theorem tot_le : ∀ a : Ds, tot a ≤ 401 * a.length
  | [] => by simp [tot]
  | d :: a => by
    have h1 := tot_le a
    have h2 := sizeN_le401 d
    unfold tot at *
    simp only [List.map_cons, List.sum_cons, List.length_cons]
    omega
theorem sizeN_le {a b : List Rg} (h : ∀ x, memL a x = true → memL b x = true) : sizeN a ≤ sizeN b := by
  have := cnt_le h 401 (-200)
  unfold sizeN; omega
theorem sizeN_lt {a b : List Rg} (ha : Normal a) (hb : Normal b) (h : ∀ x, memL a x = true → memL b x = true) (hne : a ≠ b) : sizeN a < sizeN b := by
  have hx : ∃ x, memL b x = true ∧ memL a x = false := by
    apply Classical.byContradiction
    intro hn
    apply hne
    refine normal_unique ha hb (fun x => ?_)
    cases hbx : memL b x with
    | false =>
      cases hax : memL a x with
      | false => rfl
      | true => rw [h x hax] at hbx; cases hbx
    | true =>
      cases hax : memL a x with
      | true => rfl
      | false => exact absurd ⟨x, hbx, hax⟩ hn
  obtain ⟨x, h1, h2⟩ := hx
  have hbd := memL_bounds hb h1
  have h3 := cnt_lt h h1 h2 401 (-200) hbd.1 (by omega)
  have h4 := cnt_nonneg (memL a) 401 (-200)
  unfold sizeN; omega
theorem tot_lt : ∀ {a b : Ds}, a.length = b.length → AllN a → AllN b → LeD a b → tot a ≤ tot b ∧ (a ≠ b → tot a < tot b)
  | [], [], _, _, _, _ => ⟨Nat.le_refl _, fun h => absurd rfl h⟩
  | [], _ :: _, h, _, _, _ => by simp at h
  | _ :: _, [], h, _, _, _ => by simp at h
  | d :: a, e :: b, hl, ha, hb, h => by
    have hl' : a.length = b.length := by simpa using hl
    have ha' : AllN a := fun j => ha (j + 1)
    have hb' : AllN b := fun j => hb (j + 1)
    have h' : LeD a b := fun j x hx => h (j + 1) x hx
    have hd : ∀ x, memL d x = true → memL e x = true := fun x hx => h 0 x hx
    obtain ⟨i1, i2⟩ := tot_lt hl' ha' hb' h'
    have h0 := sizeN_le hd
    unfold tot at *
    simp only [List.map_cons, List.sum_cons]
    refine ⟨by omega, fun hne => ?_⟩
    by_cases hde : d = e
    · subst hde
      have : a ≠ b := fun e => hne (by rw [e])
      have := i2 this
      omega
    · have := sizeN_lt (show Normal d from ha 0) (show Normal e from hb 0) hd hde
      omega
/-- a step that takes nothing, or takes at least one -/
theorem once_tot {p : PL} {now d : Ds} (hn : AllN now) (ho : onceP p now = some d) : tot d ≤ tot now ∧ (d ≠ now → tot d < tot now) :=
  tot_lt (onceP_len ho) (onceP_normal ho) hn (fun j x hx => by have := onceP_sub ho j x hx; rwa [norm_getD hn] at this)
/-- behind a step: what was stable and names nothing that was changed is stable yet -/
theorem stable_on {p q : PL} {now d : Ds} (hn : AllN now) (hp : p.Good now.length) (hq : q.Good now.length) (ho : onceP p now = some d) (hs : onceP q now = some now) (hc : ∀ v ∈ q.all, v ∈ p.all → domOf d v = domOf now v) : onceP q d = some d := by
  refine onceP_stable hq (onceP_len ho).symm hn (onceP_normal ho) (fun v hv => ?_) hs
  by_cases hvp : v ∈ p.all
  · exact (hc v hv hvp).symm
  · by_cases h : ∃ u ∈ p.all, u.toNat = v.toNat
    · obtain ⟨u, hu, e⟩ := h
      have h1 := hp.vars u hu
      have h2 := hq.vars v hv
      have : u = v := by omega
      subst this
      exact absurd hu hvp
    · have := onceP_other hp ho (j := v.toNat) (fun u hu e => h ⟨u, hu, e⟩)
      rw [norm_getD hn] at this
      unfold domOf
      exact this.symm
/-- where no variable of its own was changed, nothing was -/
theorem same_of {p : PL} {now d : Ds} (hn : AllN now) (hp : p.Good now.length) (ho : onceP p now = some d) (hc : ∀ v ∈ p.all, domOf d v = domOf now v) : d = now := by
  refine ds_ext (onceP_len ho) (onceP_normal ho) hn (fun j _ x => ?_)
  by_cases h : ∃ u ∈ p.all, u.toNat = j
  · obtain ⟨u, hu, rfl⟩ := h
    have := hc u hu
    unfold domOf at this
    rw [this]
  · have := onceP_other hp ho (j := j) (fun u hu e => h ⟨u, hu, e⟩)
    rw [norm_getD hn] at this
    rw [this]
end Go.Proofs.YtajooiainglpmaaGreat
namespace Go.Proofs.YtajooiainglpmaaGreat
open Go.RowKit

/-- a waiting place's weight -/
def pw (ps : List PL) (x : Int) : Int := match ps[x.toNat]? with
  | some p => wgt p.kind p.vars.length p.vs.length
  | none => 0
def qLess (ps : List PL) (L : List Int) (i k : Nat) : Bool := decide (pw ps (L.getD i 0) < pw ps (L.getD k 0))
theorem pw_at {ps : List PL} {x : Int} {a : Nat} (h : x = a) (ha : a < ps.length) : pw ps x = wgt ps[a].kind ps[a].vars.length ps[a].vs.length := by
  subst h
  unfold pw
  rw [Int.toNat_natCast, List.getElem?_eq_getElem ha]

set_option maxRecDepth 100000 in
set_option maxHeartbeats 1600000 in
theorem qless_c (qb mb B : Nat) (pl vp : Value) (L : List Int) (ps : List PL) (i k : Nat) (w : World) (h : QAt w qb mb B pl vp L) (hp : PsAt w vp ps) (hps : ∀ p ∈ ps, p.vs.length ≤ 4096) (_hpl : ps.length ≤ 4096) (hin : InPs L ps) (hi : i < L.length) (hk : k < L.length) (hl : L.length ≤ 4097) :
    Calls Tryz.prog 156 #[.pointer (some ⟨qb, 0, none⟩), .int .i64 i, .int .i64 k] w fun e w' => e = .returned (.bool (qLess ps L i k)) ∧ Below w.heap.size w w' := by
  have c0 := h.c0
  have c1 := h.c1
  obtain ⟨g, cap, rfl, hgb, hcells⟩ := owns_pos h.own (by omega)
  have xi := hcells i (by omega)
  have xk := hcells k (by omega)
  rw [List.getElem?_map, List.getElem?_eq_getElem hi] at xi
  rw [List.getElem?_map, List.getElem?_eq_getElem hk] at xk
  simp only [Option.map_some] at xi xk
  have hii := hin _ (List.getElem_mem hi)
  have hkk := hin _ (List.getElem_mem hk)
  obtain ⟨a, ha⟩ := Int.eq_ofNat_of_zero_le hii.1
  obtain ⟨c, hc⟩ := Int.eq_ofNat_of_zero_le hkk.1
  have hal : a < ps.length := by have := hii.2; omega
  have hcl : c < ps.length := by have := hkk.2; omega
  have HR : Hid (qLess ps L i k = decide (wgt ps[a].kind ps[a].vars.length ps[a].vs.length < wgt ps[c].kind ps[c].vars.length ps[c].vs.length)) := by
    show _ = _
    unfold qLess
    rw [List.getD_eq_getElem?_getD, List.getD_eq_getElem?_getD, List.getElem?_eq_getElem hi, List.getElem?_eq_getElem hk, Option.getD_some, Option.getD_some, pw_at ha hal, pw_at hc hcl]
  rw [ha] at xi
  rw [hc] at xk
  obtain ⟨ap, cp, rfl, _⟩ := hp.shape
  obtain ⟨bp, op, va, vb, vv, rfl, hbp, ca, ia, ib, iv⟩ := hp.get a hal
  obtain ⟨bp2, op2, va2, vb2, vv2, he, _, cc, ia2, ib2, iv2⟩ := hp.get c hcl
  simp only [Option.some.injEq, Addr.mk.injEq, and_true] at he
  obtain ⟨rfl, rfl⟩ := he
  have hv1 := hps _ (List.getElem_mem hal)
  have hv2 := hps _ (List.getElem_mem hcl)
  obtain ⟨n0, q0, rfl, s0⟩ := IsAt.shape ia
  obtain ⟨n1, q1, rfl, s1⟩ := IsAt.shape ib
  obtain ⟨n2, q2, rfl, s2⟩ := IsAt.shape iv
  obtain ⟨n3, q3, rfl, s3⟩ := IsAt.shape ia2
  obtain ⟨n4, q4, rfl, s4⟩ := IsAt.shape ib2
  obtain ⟨n5, q5, rfl, s5⟩ := IsAt.shape iv2
  clear s0 s1 s2 s3 s4 s5 ia ib iv ia2 ib2 iv2 hp hps hcells h hii hkk ha hc hin
  have j1 : (i : Int) < L.length := by omega
  have j2 : (k : Int) < L.length := by omega
  have j3 : (a : Int) < ps.length := by omega
  have j4 : (c : Int) < ps.length := by omega
  generalize qLess ps L i k = R at *
  generalize ps[a] = pa at *
  generalize ps[c] = pc at *
  clear hal hcl
  obtain ⟨k1, r1, u1, x1, y1, z1, cf1, vr1, vs1⟩ := pa
  obtain ⟨k2, r2, u2, x2, y2, z2, cf2, vr2, vs2⟩ := pc
  dsimp only at *
  have CW1 : Hid (∀ W, Calls Tryz.prog 160 #[.agg #[.int .i64 k1, .slice n0 cf1.length q0, .slice n1 vr1.length q1, .int .i64 r1, .int .i64 u1, .int .i64 x1, .int .i64 y1, .int .i64 z1, .slice n2 vs1.length q2]] W fun e w' => e = .returned (.int .i64 (wgt k1 vr1.length vs1.length)) ∧ Below W.heap.size W w') := fun W => weight_c _ _ _ _ _ _ _ _ _ _ _ _ _ _ _ W hv1
  have CW2 : Hid (∀ W, Calls Tryz.prog 160 #[.agg #[.int .i64 k2, .slice n3 cf2.length q3, .slice n4 vr2.length q4, .int .i64 r2, .int .i64 u2, .int .i64 x2, .int .i64 y2, .int .i64 z2, .slice n5 vs2.length q5]] W fun e w' => e = .returned (.int .i64 (wgt k2 vr2.length vs2.length)) ∧ Below W.heap.size W w') := fun W => weight_c _ _ _ _ _ _ _ _ _ _ _ _ _ _ _ W hv2
  have y0 := qb_cell c0
  have y1' := qb_cell c1
  have y2' := qb_cell xi
  have y3 := qb_cell xk
  obtain ⟨d0, d1, d2, d3, d4, d5, d6, d7, d8⟩ := ca
  obtain ⟨e0, e1, e2, e3, e4, e5, e6, e7, e8⟩ := cc
  have f0 := qb_cell d0; have f1 := qb_cell d1; have f2 := qb_cell d2; have f3 := qb_cell d3; have f4 := qb_cell d4; have f5 := qb_cell d5; have f6 := qb_cell d6; have f7 := qb_cell d7; have f8 := qb_cell d8
  have g0 := qb_cell e0; have g1 := qb_cell e1; have g2 := qb_cell e2; have g3 := qb_cell e3; have g4 := qb_cell e4; have g5 := qb_cell e5; have g6 := qb_cell e6; have g7 := qb_cell e7; have g8 := qb_cell e8
  clear c0 c1 xi xk d0 d1 d2 d3 d4 d5 d6 d7 d8 e0 e1 e2 e3 e4 e5 e6 e7 e8
  generalize wgt k1 vr1.length vs1.length = w1 at *
  generalize wgt k2 vr2.length vs2.length = w2 at *
  go_enter Tryz.func156, Tryz.ntmps156
  go_wp2
  refine wp_region_below (by kernel_rfl) (by kernel_rfl) ?_
  repeat (go_big_quiet_step ((go_at_call 160; first | with_reducible exact qb_call _ (CW1.out _) | with_reducible exact qb_call _ (CW2.out _))))
  refine wpQuiet_nil ?_
  intro w1' hw1'
  clear y0 y1' y2' y3 f0 f1 f2 f3 f4 f5 f6 f7 f8 g0 g1 g2 g3 g4 g5 g6 g7 g8
  go_wp2
  go_ret
  exact ⟨by rw [HR.out]; rfl, hw1'.below⟩
end Go.Proofs.YtajooiainglpmaaGreat
namespace Go.Proofs.YtajooiainglpmaaGreat
open Go.RowKit

theorem swapL_perm (L : List Int) (i k : Nat) (hi : i < L.length) (hk : k < L.length) : (swapL L i k).Perm L := by
  rw [List.perm_iff_count]
  intro a
  unfold swapL
  rw [List.getD_eq_getElem?_getD, List.getD_eq_getElem?_getD, List.getElem?_eq_getElem hi, List.getElem?_eq_getElem hk, Option.getD_some, Option.getD_some]
  have e1 : k < (L.set i L[k]).length := by simpa using hk
  have p1 : 0 < L.count L[i] := List.count_pos_iff.mpr (List.getElem_mem hi)
  have p2 : 0 < L.count L[k] := List.count_pos_iff.mpr (List.getElem_mem hk)
  rw [List.count_set e1, List.count_set hi, List.getElem_set]
  by_cases e : i = k
  · subst e
    simp
    by_cases h : L[i] = a
    · subst h; simp
    · simp [h]
  · simp only [e, if_false]
    by_cases h1 : L[i] = a <;> by_cases h2 : L[k] = a <;> simp [h1, h2] <;> (try subst h1) <;> (try subst h2) <;> (try omega)
    all_goals (try (simp_all <;> omega))
theorem InPs.perm {L L' : List Int} {ps : List PL} (h : InPs L ps) (p : L'.Perm L) : InPs L' ps := fun i hi => h i (p.mem_iff.mp hi)

/-- what holds in each world that the queue's own methods come to -/
def Kept (qb : Nat) (w : World) (pl : Value) (P : World → Prop) : Prop := ∀ w' pl', QSt qb w pl w' pl' → P w'
theorem Kept.here {qb : Nat} {w : World} {pl : Value} {P : World → Prop} (h : Kept qb w pl P) : P w := h w pl (QSt.refl _ _ _)
theorem Kept.on {qb : Nat} {w w' : World} {pl pl' : Value} {P : World → Prop} (h : Kept qb w pl P) (g : QSt qb w pl w' pl') : Kept qb w' pl' P := fun _ _ q => h _ _ (g.trans q)

theorem me_less (p : Option Addr) (n : Nat) (w : World) : (method (n + 1) 81 (.pointer p) "Less").run Tryz.prog w = .ok (156, .pointer p) w := by kernel_rfl
theorem me_push (qb : Nat) (n : Nat) (w : World) : (method (n + 1) 81 (.pointer (some ⟨qb, 0, none⟩)) "Push").run Tryz.prog w = .ok (158, .pointer (some ⟨qb, 0, none⟩)) w := by kernel_rfl
theorem me_pop (qb : Nat) (n : Nat) (w : World) : (method (n + 1) 81 (.pointer (some ⟨qb, 0, none⟩)) "Pop").run Tryz.prog w = .ok (157, .pointer (some ⟨qb, 0, none⟩)) w := by kernel_rfl
theorem me_len (qb : Nat) (n : Nat) (w : World) (v : Value) (h : w.cell? ⟨qb, 0, none⟩ = some v) : (method (n + 1) 81 (.pointer (some ⟨qb, 0, none⟩)) "Len").run Tryz.prog w = .ok (48, v) w := by
  have e : (method (n + 1) 81 (.pointer (some ⟨qb, 0, none⟩)) "Len").run Tryz.prog w = (load ⟨qb, 0, none⟩ >>= fun v => pure (48, v)).run Tryz.prog w := by kernel_rfl
  rw [e]
  simp [go_sem, h]
theorem me_swap (qb : Nat) (n : Nat) (w : World) (v : Value) (h : w.cell? ⟨qb, 0, none⟩ = some v) : (method (n + 1) 81 (.pointer (some ⟨qb, 0, none⟩)) "Swap").run Tryz.prog w = .ok (159, v) w := by
  have e : (method (n + 1) 81 (.pointer (some ⟨qb, 0, none⟩)) "Swap").run Tryz.prog w = (load ⟨qb, 0, none⟩ >>= fun v => pure (159, v)).run Tryz.prog w := by kernel_rfl
  rw [e]
  simp [go_sem, h]

theorem QAt.swapped {w w' : World} {qb mb B : Nat} {pl vp : Value} {L : List Int} {i k : Nat} (h : QAt w qb mb B pl vp L) (hl : 0 < L.length) (ho : w'.ownsRow B 3 1 pl L.length ((swapL L i k).map (Value.int .i64))) (hs : ∀ q, pl.ownBlock ≠ some q → QSt q w pl w' pl) : QAt w' qb mb B pl vp (swapL L i k) ∧ QSt qb w pl w' pl := by
  obtain ⟨g, cap, rfl, hgb, hcells⟩ := owns_pos h.own (by omega)
  have hg : ∀ q, q < B → (Value.slice (some ⟨g, 0, none⟩) L.length cap).ownBlock ≠ some q := fun q hq e => by
    simp [Value.ownBlock] at e
    omega
  have x0 := hcells 0 (by omega)
  have hgs := World.block_lt_of_cell? w ⟨g, 0, none⟩ (x0.trans (by rw [List.getElem?_eq_getElem (by simpa using hl)]))
  have hgs : g < w.heap.size := hgs
  have s1 := hs (w.heap.size) (fun e => by simp [Value.ownBlock] at e; omega)
  have e := s1.blk qb h.lt (by have := h.lt; omega) (hg qb h.lq)
  refine ⟨⟨(World.cell?_of_block (a := ⟨qb, 0, none⟩) e).trans h.c0, (World.cell?_of_block (a := ⟨qb, 1, none⟩) e).trans h.c1, (World.cell?_of_block (a := ⟨qb, 2, none⟩) e).trans h.c2, (World.frozen?_of_block (a := ⟨qb, 0, none⟩) e).trans h.f0, ?_, h.lq, h.lm⟩, hs qb (hg qb h.lq)⟩
  rw [swapL_len]
  exact ho

set_option maxRecDepth 100000 in
set_option maxHeartbeats 1600000 in
theorem qup_c (qb mb B : Nat) (pl vp : Value) (L : List Int) (ps : List PL) (j : Nat) (w : World) (h : QAt w qb mb B pl vp L) (hp : Kept qb w pl (fun W => PsAt W vp ps)) (hps : ∀ p ∈ ps, p.vs.length ≤ 4096) (hpl : ps.length ≤ 4096) (hin : InPs L ps) (hj : j < L.length) (hl : L.length ≤ 4097) :
    Calls Tryz.prog 87 #[.iface 81 (.pointer (some ⟨qb, 0, none⟩)), .int .i64 j] w
      fun e w' => (∃ u, e = .returned u) ∧ ∃ L', L'.Perm L ∧ QAt w' qb mb B pl vp L' ∧ QSt qb w pl w' pl := by
  have H := Lib.hid h
  have HP := Lib.hid hp
  have HI := Lib.hid hin
  have HS := Lib.hid hps
  have ml := fun n W => me_less (some ⟨qb, 0, none⟩) n W
  clear h hp hin hps
  go_enter Tryz.func87, Tryz.ntmps87
  go_wp2
  go_loopw [1] (fun s wr => ∃ (j : Nat) (L' : List Int), s = .int .i64 j ∧ j < L.length ∧ Hid (L'.Perm L ∧ QAt wr qb mb B pl vp L' ∧ QSt qb w pl wr pl)) (fun s _ => (intOf s).toNat)
  case atStart => exact ⟨j, L, rfl, hj, List.Perm.refl _, H.out, QSt.refl _ _ _⟩
  case round =>
    obtain ⟨j, L1, rfl, hj, HR⟩ := hrel
    have hj64 : (j : Int) < 4097 := by omega
    by_cases j0 : j = 0
    · subst j0
      go_wp2
      go_end0
      exact ⟨⟨_, rfl⟩, L1, HR.out⟩
    obtain ⟨m, hm⟩ : ∃ m, m = (j - 1) / 2 := ⟨_, rfl⟩
    have e1 : ((j : Int) - 1).tdiv 2 = m := by rw [Int.tdiv_eq_ediv_of_nonneg (by omega)]; omega
    have e2 : ((m : Int) == j) = false := by rw [beq_eq_false_iff_ne]; omega
    have hmj : m < j := by omega
    clear hm
    have hl1 : Hid (L1.length = L.length) := HR.out.1.length_eq
    have CL := Lib.hid (qless_c qb mb B pl vp L1 ps j m wr HR.out.2.1 (HP.out.on HR.out.2.2).here HS.out hpl (HI.out.perm HR.out.1) (by rw [hl1.out]; exact hj) (by rw [hl1.out]; omega) (by rw [hl1.out]; exact hl))
    cases hb : qLess ps L1 j m
    · rw [hb] at CL
      go_wp2_with (go_at_call 156; (with_reducible refine CL.out.mono ?_); rintro e W1 ⟨rfl, bb⟩; have B1 := Lib.hid bb; clear bb)
      go_end0
      exact ⟨⟨_, rfl⟩, L1, HR.out.1, HR.out.2.1.below B1.out, HR.out.2.2.trans (QSt.of_below B1.out)⟩
    · rw [hb] at CL
      go_wp2_with (first | (go_at_call 156; (with_reducible refine CL.out.mono ?_); rintro e W1 ⟨rfl, bb⟩; have B1 := Lib.hid bb; clear bb; have Q1 := Lib.hid (HR.out.2.1.below B1.out); have ms := fun n => me_swap qb n W1 pl Q1.out.c0; have CS := Lib.hid (qswap_c B pl L1 m j W1 Q1.out.own (by rw [hl1.out]; omega) (by rw [hl1.out]; exact hj) (by rw [hl1.out]; exact hl))) | (go_at_call 159; (with_reducible refine CS.out.mono ?_); rintro e W2 ⟨⟨u, rfl⟩, bo, bs⟩; have Q2 := Lib.hid (Q1.out.swapped (by rw [hl1.out]; omega) bo bs); clear bo bs))
      exact ⟨⟨m, swapL L1 m j, rfl, by omega, (swapL_perm L1 m j (by rw [hl1.out]; omega) (by rw [hl1.out]; exact hj)).trans HR.out.1, Q2.out.1, (HR.out.2.2.trans (QSt.of_below B1.out)).trans Q2.out.2⟩, by simp [intOf]; omega⟩
end Go.Proofs.YtajooiainglpmaaGreat
namespace Go.Proofs.YtajooiainglpmaaGreat
open Go.RowKit

set_option maxRecDepth 100000 in
set_option maxHeartbeats 1600000 in
theorem qdown_c (qb mb B : Nat) (pl vp : Value) (L : List Int) (ps : List PL) (i0 n : Nat) (w : World) (h : QAt w qb mb B pl vp L) (hp : Kept qb w pl (fun W => PsAt W vp ps)) (hps : ∀ p ∈ ps, p.vs.length ≤ 4096) (hpl : ps.length ≤ 4096) (hin : InPs L ps) (hi : i0 ≤ n) (hn : n ≤ L.length) (hl : L.length ≤ 4097) :
    Calls Tryz.prog 88 #[.iface 81 (.pointer (some ⟨qb, 0, none⟩)), .int .i64 i0, .int .i64 n] w
      fun e w' => (∃ u, e = .returned u) ∧ ∃ L', L'.Perm L ∧ QAt w' qb mb B pl vp L' ∧ QSt qb w pl w' pl := by
  have H := Lib.hid h
  have HP := Lib.hid hp
  have HI := Lib.hid hin
  have HS := Lib.hid hps
  have ml := fun n W => me_less (some ⟨qb, 0, none⟩) n W
  clear h hp hin hps
  go_enter Tryz.func88, Tryz.ntmps88
  go_wp2
  go_loopw [7] (fun s wr => ∃ (i : Nat) (L' : List Int), s = .int .i64 i ∧ i ≤ n ∧ Hid (L'.Perm L ∧ QAt wr qb mb B pl vp L' ∧ QSt qb w pl wr pl)) (fun s _ => n - (intOf s).toNat)
  case atStart => exact ⟨i0, L, rfl, hi, List.Perm.refl _, H.out, QSt.refl _ _ _⟩
  case round =>
    obtain ⟨i, L1, rfl, hin, HR⟩ := hrel
    have hi64 : (i : Int) < 4098 := by omega
    have hn64 : (n : Int) < 4098 := by omega
    by_cases h1 : n ≤ 2 * i + 1
    · have g1 : (n : Int) ≤ 2 * i + 1 := by omega
      clear h1
      go_wp2
      go_ret
      exact ⟨⟨_, rfl⟩, L1, HR.out⟩
    have g1 : (2 : Int) * i + 1 < n := by omega
    have hl1 : Hid (L1.length = L.length) := HR.out.1.length_eq
    have CL : Hid (∀ a b : Nat, a < n → b < n → ∀ W, Below wr.heap.size wr W → Calls Tryz.prog 156 #[.pointer (some ⟨qb, 0, none⟩), .int .i64 a, .int .i64 b] W fun e w' => e = .returned (.bool (qLess ps L1 a b)) ∧ Below W.heap.size W w') := fun a b ha hb W hW =>
      qless_c qb mb B pl vp L1 ps a b W (HR.out.2.1.below hW) ((HP.out.on HR.out.2.2).on (QSt.of_below hW)).here HS.out hpl (HI.out.perm HR.out.1) (by rw [hl1.out]; omega) (by rw [hl1.out]; omega) (by rw [hl1.out]; exact hl)
    have CS : Hid (∀ a b : Nat, a < n → b < n → ∀ W, Below wr.heap.size wr W → Calls Tryz.prog 159 #[pl, .int .i64 a, .int .i64 b] W fun e w' => (∃ u, e = .returned u) ∧ QAt w' qb mb B pl vp (swapL L1 a b) ∧ QSt qb w pl w' pl) := fun a b ha hb W hW =>
      (qswap_c B pl L1 a b W (HR.out.2.1.below hW).own (by rw [hl1.out]; omega) (by rw [hl1.out]; omega) (by rw [hl1.out]; exact hl)).mono (fun e w' ⟨hu, bo, bs⟩ =>
        have q := (HR.out.2.1.below hW).swapped (by rw [hl1.out]; omega) bo bs
        ⟨hu, q.1, (HR.out.2.2.trans (QSt.of_below hW)).trans q.2⟩)
    have HZ : Hid (Below wr.heap.size wr wr) := Below.refl _ _
    have m1 : ((2 * i + 1 : Nat) : Int) = 2 * i + 1 := by omega
    have m2 : ((2 * i + 2 : Nat) : Int) = 2 * i + 1 + 1 := by omega
    by_cases h2 : n ≤ 2 * i + 2
    · have g2 : (n : Int) ≤ 2 * i + 1 + 1 := by omega
      have D := Lib.hid (CL.out (2 * i + 1) i (by omega) (by omega))
      have E := Lib.hid (CS.out i (2 * i + 1) (by omega) (by omega))
      rw [m1] at D E
      cases hc : qLess ps L1 (2 * i + 1) i
      · rw [hc] at D
        go_wp2_with ((go_at_call 156; (with_reducible refine (D.out _ HZ.out).mono ?_); rintro e W2 ⟨rfl, bb⟩; have B2 := Lib.hid (HZ.out.trans (bb.mono HZ.out.size)); clear bb))
        go_ret
        exact ⟨⟨_, rfl⟩, L1, HR.out.1, HR.out.2.1.below B2.out, HR.out.2.2.trans (QSt.of_below B2.out)⟩
      · rw [hc] at D
        go_wp2_with (first | (go_at_call 156; (with_reducible refine (D.out _ HZ.out).mono ?_); rintro e W2 ⟨rfl, bb⟩; have B2 := Lib.hid (HZ.out.trans (bb.mono HZ.out.size)); clear bb; have ms := fun n => me_swap qb n W2 pl (HR.out.2.1.below B2.out).c0) | (go_at_call 159; (with_reducible refine (E.out _ B2.out).mono ?_); rintro e W3 ⟨⟨u, rfl⟩, qa, qs⟩; have Q := Lib.hid (And.intro qa qs); clear qa qs))
        exact ⟨⟨2 * i + 1, swapL L1 i (2 * i + 1), by go_num, by omega, (swapL_perm L1 i (2 * i + 1) (by rw [hl1.out]; omega) (by rw [hl1.out]; omega)).trans HR.out.1, Q.out.1, Q.out.2⟩, by simp [intOf]; omega⟩
    have g2 : (2 : Int) * i + 1 + 1 < n := by omega
    cases hb : qLess ps L1 (2 * i + 2) (2 * i + 1)
    · have D := Lib.hid (CL.out (2 * i + 1) i (by omega) (by omega))
      have E := Lib.hid (CS.out i (2 * i + 1) (by omega) (by omega))
      rw [m1] at D E
      have C := Lib.hid (CL.out (2 * i + 2) (2 * i + 1) (by omega) (by omega) wr HZ.out)
      rw [m1, m2, hb] at C
      cases hc : qLess ps L1 (2 * i + 1) i
      · rw [hc] at D
        go_wp2_with (first | (go_at_call 156; (with_reducible refine C.out.mono ?_); rintro e W1 ⟨rfl, bb⟩; have B1 := Lib.hid bb; clear bb C) | (go_at_call 156; (with_reducible refine (D.out _ B1.out).mono ?_); rintro e W2 ⟨rfl, bb⟩; have B2 := Lib.hid (B1.out.trans (bb.mono B1.out.size)); clear bb))
        go_ret
        exact ⟨⟨_, rfl⟩, L1, HR.out.1, HR.out.2.1.below B2.out, HR.out.2.2.trans (QSt.of_below B2.out)⟩
      · rw [hc] at D
        go_wp2_with (first | (go_at_call 156; (with_reducible refine C.out.mono ?_); rintro e W1 ⟨rfl, bb⟩; have B1 := Lib.hid bb; clear bb C) | (go_at_call 156; (with_reducible refine (D.out _ B1.out).mono ?_); rintro e W2 ⟨rfl, bb⟩; have B2 := Lib.hid (B1.out.trans (bb.mono B1.out.size)); clear bb; have ms := fun n => me_swap qb n W2 pl (HR.out.2.1.below B2.out).c0) | (go_at_call 159; (with_reducible refine (E.out _ B2.out).mono ?_); rintro e W3 ⟨⟨u, rfl⟩, qa, qs⟩; have Q := Lib.hid (And.intro qa qs); clear qa qs))
        exact ⟨⟨2 * i + 1, swapL L1 i (2 * i + 1), by go_num, by omega, (swapL_perm L1 i (2 * i + 1) (by rw [hl1.out]; omega) (by rw [hl1.out]; omega)).trans HR.out.1, Q.out.1, Q.out.2⟩, by simp [intOf]; omega⟩
    · have D := Lib.hid (CL.out (2 * i + 2) i (by omega) (by omega))
      have E := Lib.hid (CS.out i (2 * i + 2) (by omega) (by omega))
      rw [m2] at D E
      have C := Lib.hid (CL.out (2 * i + 2) (2 * i + 1) (by omega) (by omega) wr HZ.out)
      rw [m1, m2, hb] at C
      cases hc : qLess ps L1 (2 * i + 2) i
      · rw [hc] at D
        go_wp2_with (first | (go_at_call 156; (with_reducible refine C.out.mono ?_); rintro e W1 ⟨rfl, bb⟩; have B1 := Lib.hid bb; clear bb C) | (go_at_call 156; (with_reducible refine (D.out _ B1.out).mono ?_); rintro e W2 ⟨rfl, bb⟩; have B2 := Lib.hid (B1.out.trans (bb.mono B1.out.size)); clear bb))
        go_ret
        exact ⟨⟨_, rfl⟩, L1, HR.out.1, HR.out.2.1.below B2.out, HR.out.2.2.trans (QSt.of_below B2.out)⟩
      · rw [hc] at D
        go_wp2_with (first | (go_at_call 156; (with_reducible refine C.out.mono ?_); rintro e W1 ⟨rfl, bb⟩; have B1 := Lib.hid bb; clear bb C) | (go_at_call 156; (with_reducible refine (D.out _ B1.out).mono ?_); rintro e W2 ⟨rfl, bb⟩; have B2 := Lib.hid (B1.out.trans (bb.mono B1.out.size)); clear bb; have ms := fun n => me_swap qb n W2 pl (HR.out.2.1.below B2.out).c0) | (go_at_call 159; (with_reducible refine (E.out _ B2.out).mono ?_); rintro e W3 ⟨⟨u, rfl⟩, qa, qs⟩; have Q := Lib.hid (And.intro qa qs); clear qa qs))
        exact ⟨⟨2 * i + 2, swapL L1 i (2 * i + 2), by go_num, by omega, (swapL_perm L1 i (2 * i + 2) (by rw [hl1.out]; omega) (by rw [hl1.out]; omega)).trans HR.out.1, Q.out.1, Q.out.2⟩, by simp [intOf]; omega⟩
end Go.Proofs.YtajooiainglpmaaGreat
namespace Go.Proofs.YtajooiainglpmaaGreat
open Go.RowKit

theorem slice_len {B e n : Nat} {w : World} {pl : Value} {xs : List Value} (h : w.ownsRow B e 1 pl n xs) : ∃ ao cap, pl = .slice ao n cap := by
  obtain ⟨ao, cap, he, _⟩ := (SlAt.of_own h).shape
  exact ⟨ao, cap, he⟩
theorem last_split {L : List Int} {m : Nat} (h : L.length = m + 1) : ∃ L' x, L = L' ++ [x] ∧ L'.length = m := by
  have hne : L ≠ [] := fun e => by rw [e] at h; simp at h
  exact ⟨L.dropLast, L.getLast hne, (List.dropLast_concat_getLast hne).symm, by rw [List.length_dropLast, h]; omega⟩
set_option maxRecDepth 100000 in
set_option maxHeartbeats 1600000 in
theorem hpush_c (qb mb B : Nat) (pl vp : Value) (L : List Int) (ps : List PL) (i : Int) (w : World) (h : QAt w qb mb B pl vp L) (hp : Kept qb w pl (fun W => PsAt W vp ps)) (hps : ∀ p ∈ ps, p.vs.length ≤ 4096) (hpl : ps.length ≤ 4096) (hin : InPs (L ++ [i]) ps) (hl : L.length ≤ 4096) (hB : B ≤ w.heap.size) :
    Calls Tryz.prog 73 #[.iface 81 (.pointer (some ⟨qb, 0, none⟩)), .iface 3 (.int .i64 i)] w
      fun e w' => (∃ u, e = .returned u) ∧ ∃ pl' L', L'.Perm (L ++ [i]) ∧ QAt w' qb mb B pl' vp L' ∧ QSt qb w pl w' pl' := by
  have HP := Lib.hid hp
  have HI := Lib.hid hin
  have HS := Lib.hid hps
  have CP := Lib.hid (qpush_c qb mb B pl vp L i w h hl hB)
  have ml := fun n W => me_push qb n W
  obtain ⟨M, hM⟩ : ∃ M, M = L ++ [i] := ⟨_, rfl⟩
  have hML : Hid (M.length = L.length + 1) := by show _ = _; rw [hM]; simp
  rw [← hM] at CP HI ⊢
  clear hp hin hps h hM hB
  go_enter Tryz.func73, Tryz.ntmps73
  go_wp2_with (first
    | (go_at_call 158; (with_reducible refine CP.out.mono ?_); rintro e W1 ⟨⟨u, rfl⟩, pl1, q1, s1⟩; have Q1 := Lib.hid q1; have S1 := Lib.hid s1; clear q1 s1; obtain ⟨ao, cap, rfl⟩ := slice_len Q1.out.own; rw [hML.out] at Q1 S1; have m1 := fun n => me_len qb n W1 _ Q1.out.c0)
    | (go_at_call 48; (with_reducible refine (qlen_c _ _ _ _).mono ?_); rintro e W2 ⟨rfl, rfl⟩; have CU := Lib.hid (qup_c qb mb B _ vp M ps L.length W1 Q1.out (HP.out.on S1.out) HS.out hpl HI.out (by rw [hML.out]; omega) (by rw [hML.out]; omega)))
    | (go_at_call 87; (with_reducible refine CU.out.mono ?_); rintro e W3 ⟨⟨u3, rfl⟩, L3, p3, q3, s3⟩; have Q3 := Lib.hid q3; have S3 := Lib.hid s3; have P3 := Lib.hid p3; clear q3 s3 p3))
  go_end0
  exact ⟨⟨_, rfl⟩, _, L3, P3.out, Q3.out, S1.out.trans S3.out⟩

set_option maxRecDepth 100000 in
set_option maxHeartbeats 1600000 in
theorem hpop_c (qb mb B : Nat) (pl vp : Value) (L : List Int) (ps : List PL) (m : Nat) (w : World) (h : QAt w qb mb B pl vp L) (hp : Kept qb w pl (fun W => PsAt W vp ps)) (hps : ∀ p ∈ ps, p.vs.length ≤ 4096) (hpl : ps.length ≤ 4096) (hin : InPs L ps) (hm : L.length = m + 1) (hl : m ≤ 4095) :
    Calls Tryz.prog 74 #[.iface 81 (.pointer (some ⟨qb, 0, none⟩))] w
      fun e w' => ∃ x, e = .returned (.iface 3 (.int .i64 x)) ∧ ∃ pl' L', (x :: L').Perm L ∧ QAt w' qb mb B pl' vp L' ∧ QSt qb w pl w' pl' := by
  have H := Lib.hid h
  have HP := Lib.hid hp
  have HI := Lib.hid hin
  have HS := Lib.hid hps
  have HM := Lib.hid hm
  have ml := fun n W => me_pop qb n W
  have m1 := fun n => me_len qb n w _ h.c0
  have m2 := fun n => me_swap qb n w _ h.c0
  have z0 : ((0 : Nat) : Int) = 0 := rfl
  have CS := Lib.hid (qswap_c B pl L 0 m w h.own (by omega) (by omega) (by omega))
  rw [z0] at CS
  obtain ⟨ao, cap, rfl⟩ := slice_len h.own
  rw [hm] at m1 m2
  clear h hp hin hps hm
  go_enter Tryz.func74, Tryz.ntmps74
  go_wp2_with (first
    | (go_at_call 48; (with_reducible refine (qlen_c _ _ _ _).mono ?_); rintro e W2 ⟨rfl, rfl⟩; rw [HM.out] at CS)
    | (go_at_call 159; (with_reducible refine CS.out.mono ?_); rintro e W2 ⟨⟨u, rfl⟩, bo, bs⟩; have Q1 := Lib.hid (H.out.swapped (by rw [HM.out]; omega) (by rw [HM.out]; exact bo) (by rw [HM.out]; exact bs)); clear bo bs; have P1 := Lib.hid (swapL_perm L 0 m (by rw [HM.out]; omega) (by rw [HM.out]; omega)); have CD := Lib.hid (qdown_c qb mb B _ vp (swapL L 0 m) ps 0 m W2 Q1.out.1 (HP.out.on Q1.out.2) HS.out hpl (HI.out.perm P1.out) (by omega) (by rw [swapL_len, HM.out]; omega) (by rw [swapL_len, HM.out]; omega)); rw [z0] at CD)
    | (go_at_call 88; (with_reducible refine CD.out.mono ?_); rintro e W3 ⟨⟨u3, rfl⟩, L3, p3, q3, s3⟩; have S3 := Lib.hid s3; obtain ⟨L4, x, rfl, h4⟩ := last_split ((p3.trans P1.out).length_eq.trans HM.out); have P3 := Lib.hid (p3.trans P1.out); have CQ := Lib.hid (qpop_c qb mb B _ vp L4 x W3 q3 (by omega)); clear q3 s3 p3 h4)    | (go_at_call 157; (with_reducible refine CQ.out.mono ?_); rintro e W4 ⟨rfl, pl5, q5, s5⟩; have Q5 := Lib.hid q5; have S5 := Lib.hid s5; clear q5 s5))
  go_ret
  exact ⟨x, rfl, pl5, L4, (List.perm_append_comm (l₁ := [x]) (l₂ := L4)).trans P3.out, Q5.out, (Q1.out.2.trans S3.out).trans S5.out⟩
end Go.Proofs.YtajooiainglpmaaGreat
namespace Go.Proofs.YtajooiainglpmaaGreat
open Go.RowKit

/-- as QSt, and the map's block -/
structure QSm (qb mb : Nat) (w : World) (pl : Value) (w' : World) (pl' : Value) : Prop where
  b0 : Below 0 w w'
  blk : ∀ b, b < w.heap.size → b ≠ qb → b ≠ mb → pl.ownBlock ≠ some b → w'.heap[b]? = w.heap[b]?
  row : ∀ b, pl'.ownBlock = some b → pl.ownBlock = some b ∨ w.heap.size ≤ b
theorem QSm.refl (qb mb : Nat) (w : World) (pl : Value) : QSm qb mb w pl w pl := ⟨Below.refl _ _, fun _ _ _ _ _ => rfl, fun _ h => .inl h⟩
theorem QSm.trans {qb mb : Nat} {w1 w2 w3 : World} {p1 p2 p3 : Value} (h : QSm qb mb w1 p1 w2 p2) (g : QSm qb mb w2 p2 w3 p3) : QSm qb mb w1 p1 w3 p3 where
  b0 := h.b0.trans g.b0
  blk := fun b hb hq hm hp => by
    refine (g.blk b (Nat.lt_of_lt_of_le hb h.b0.size) hq hm (fun e => ?_)).trans (h.blk b hb hq hm hp)
    rcases h.row b e with h1 | h1
    · exact hp h1
    · omega
  row := fun b hb => by
    rcases g.row b hb with h1 | h1
    · exact h.row b h1
    · exact .inr (Nat.le_trans h.b0.size h1)
theorem QSt.toM {qb mb : Nat} {w w' : World} {pl pl' : Value} (h : QSt qb w pl w' pl') : QSm qb mb w pl w' pl' := ⟨h.b0, fun b h1 h2 _ h3 => h.blk b h1 h2 h3, h.row⟩
theorem QSm.of_grown {qb mb : Nat} {w w' : World} {pl : Value} (h : w.grownBy w' (some mb)) : QSm qb mb w pl w' pl := ⟨⟨h.os, h.tape, h.output, h.size, fun k hk => absurd hk (Nat.not_lt_zero _)⟩, fun b hb _ hm _ => h.block b hb (fun e => hm (by injection e)), fun _ h => .inl h⟩
theorem QSm.below {qb mb B : Nat} {w w' : World} {pl pl' : Value} (h : QSm qb mb w pl w' pl') (hq : B ≤ qb) (hm : B ≤ mb) (hp : ∀ b, pl.ownBlock = some b → B ≤ b) (hB : B ≤ w.heap.size) : Below B w w' :=
  ⟨h.b0.os, h.b0.tape, h.b0.output, h.b0.size, fun k hk => h.blk k (by omega) (by omega) (by omega) (fun e => by have := hp k e; omega)⟩
/-- what holds in each world that wait and next come to -/
def KeptM (qb mb : Nat) (w : World) (pl : Value) (P : World → Prop) : Prop := ∀ w' pl', QSm qb mb w pl w' pl' → P w'
theorem KeptM.here {qb mb : Nat} {w : World} {pl : Value} {P : World → Prop} (h : KeptM qb mb w pl P) : P w := h w pl (QSm.refl _ _ _ _)
theorem KeptM.on {qb mb : Nat} {w w' : World} {pl pl' : Value} {P : World → Prop} (h : KeptM qb mb w pl P) (g : QSm qb mb w pl w' pl') : KeptM qb mb w' pl' P := fun _ _ q => h _ _ (g.trans q)
theorem KeptM.st {qb mb : Nat} {w : World} {pl : Value} {P : World → Prop} (h : KeptM qb mb w pl P) : Kept qb w pl P := fun _ _ q => h _ _ q.toM

theorem own_apart {w : World} {B e size n : Nat} {v : Value} {xs : List Value} (h : w.ownsRow B e size v n xs) {b : Nat} (hb : b < B) : v.ownBlock ≠ some b := by
  rcases h.2 with ⟨rfl, _⟩ | ⟨g, cap, cur, rfl, hg, hgg, rest⟩
  · simp [Value.ownBlock]
  · intro e
    simp [Value.ownBlock] at e
    omega
theorem own_grown {w w' : World} {B e size n mb : Nat} {v : Value} {xs : List Value} (h : w.ownsRow B e size v n xs) (hb : w.grownBy w' (some mb)) (hm : mb < B) : w'.ownsRow B e size v n xs := by
  refine ⟨h.1, ?_⟩
  rcases h.2 with hn | ⟨g, cap, cur, rfl, hg, hgg, rest⟩
  · exact .inl hn
  · exact .inr ⟨g, cap, cur, rfl, hg, by rw [hb.block g (Array.getElem?_eq_some_iff.1 hgg).1 (fun e => by injection e with e; omega)]; exact hgg, rest⟩
theorem QAt.grown {w w' : World} {qb mb B : Nat} {pl vp : Value} {L : List Int} (h : QAt w qb mb B pl vp L) (hb : w.grownBy w' (some mb)) (hq : qb ≠ mb) : QAt w' qb mb B pl vp L :=
  have e := hb.block qb h.lt (fun e => hq (by injection e))
  ⟨(World.cell?_of_block (a := ⟨qb, 0, none⟩) e).trans h.c0, (World.cell?_of_block (a := ⟨qb, 1, none⟩) e).trans h.c1, (World.cell?_of_block (a := ⟨qb, 2, none⟩) e).trans h.c2, (World.frozen?_of_block (a := ⟨qb, 0, none⟩) e).trans h.f0, own_grown h.own hb h.lm, h.lq, h.lm⟩

/-- the queue and its map: the waiting places, each once -/
structure QF (w : World) (qb mb B : Nat) (pl vp : Value) (L : List Int) (n : Nat) : Prop where
  q : QAt w qb mb B pl vp L
  s : SetAt Tryz.prog 3 4 w mb n (fun i => decide (i ∈ L))
  nd : L.Nodup
  ne : qb ≠ mb

set_option maxRecDepth 100000 in
set_option maxHeartbeats 1600000 in
theorem wait_c (qb mb B : Nat) (pl vp : Value) (L : List Int) (ps : List PL) (i : Int) (n : Nat) (w : World) (h : QF w qb mb B pl vp L n) (hp : KeptM qb mb w pl (fun W => PsAt W vp ps)) (hps : ∀ p ∈ ps, p.vs.length ≤ 4096) (hpl : ps.length ≤ 4096) (hin : InPs L ps) (hi : 0 ≤ i ∧ i.toNat < ps.length) (hl : L.length ≤ 4096) (hn : n < maxLen) (hB : B ≤ w.heap.size) :
    Calls Tryz.prog 46 #[.pointer (some ⟨qb, 0, none⟩), .int .i64 i] w
      fun e w' => (∃ u, e = .returned u) ∧ ∃ pl' L', L'.Perm (if i ∈ L then L else L ++ [i]) ∧ QF w' qb mb B pl' vp L' (if i ∈ L then n else n + 1) ∧ QSm qb mb w pl w' pl' := by
  have H := Lib.hid h
  have HP := Lib.hid hp
  have HS := Lib.hid hps
  have c2 := h.q.c2
  by_cases hm : i ∈ L
  · rw [if_pos hm, if_pos hm]
    have hd : Hid (decide (i ∈ L) = true) := decide_eq_true hm
    clear h hp hps hm hn hin
    go_enter Tryz.func46, Tryz.ntmps46
    go_wp2_with (at_lookup; refine wpList_lookup_set _ rfl _ _ 82 rfl 3 4 Tryz.underlying3 Tryz.underlying82 Tryz.underlying4 (Tryz.zeroValue4 _) mb n _ rfl H.out.s i rfl (by omega) ?_; rw [hd.out])
    go_end0
    exact ⟨⟨_, rfl⟩, pl, L, List.Perm.refl _, H.out, QSm.refl _ _ _ _⟩
  · rw [if_neg hm, if_neg hm]
    have hd : Hid (decide (i ∈ L) = false) := decide_eq_false hm
    have HM := Lib.hid hm
    have HI : Hid (InPs (L ++ [i]) ps) := fun k hk => by
      rcases List.mem_append.mp hk with h1 | h1
      · exact hin k h1
      · rw [List.mem_singleton.mp h1]; exact hi
    have HN := Lib.hid hn
    clear h hp hps hm hin hn
    go_enter Tryz.func46, Tryz.ntmps46
    go_wp2_with (first
      | (at_lookup; refine wpList_lookup_set _ rfl _ _ 82 rfl 3 4 Tryz.underlying3 Tryz.underlying82 Tryz.underlying4 (Tryz.zeroValue4 _) mb n _ rfl H.out.s i rfl (by omega) ?_; rw [hd.out])
      | (at_mapUpdate; refine wpList_mapUpdate_set _ rfl _ _ _ 82 rfl 3 4 Tryz.underlying3 Tryz.underlying82 Tryz.underlying4 mb n _ rfl H.out.s HN.out i rfl (by omega) true rfl ?_; intro w5 hs5 hg5; have S5 := Lib.hid hs5; have G5 := Lib.hid hg5; have CH := Lib.hid (hpush_c qb mb B pl vp L ps i w5 (H.out.q.grown hg5 H.out.ne) (HP.out.on (QSm.of_grown hg5)).st HS.out hpl HI.out hl (Nat.le_trans hB hg5.size)); clear hs5 hg5)
      | (go_at_call 73; (with_reducible refine CH.out.mono ?_); rintro e W1 ⟨⟨u, rfl⟩, pl1, L1, p1, q1, s1⟩; have Q1 := Lib.hid q1; have S1 := Lib.hid s1; have P1 := Lib.hid p1; clear q1 s1 p1))
    go_end0
    refine ⟨⟨_, rfl⟩, pl1, L1, P1.out, ⟨Q1.out, ?_, ?_, H.out.ne⟩, (QSm.of_grown G5.out).trans S1.out.toM⟩
    · have hb := S1.out.blk mb S5.out.lt (Ne.symm H.out.ne) (own_apart H.out.q.own H.out.q.lm)
      refine (S5.out.block hb).congr (fun j => ?_)
      have hmem : j ∈ L1 ↔ j ∈ L ∨ j = i := by rw [P1.out.mem_iff]; simp
      by_cases e : j = i
      · subst e; simp [hmem]
      · simp [hmem, e]
    · rw [P1.out.nodup_iff]
      exact List.nodup_append.mpr ⟨H.out.nd, by simp, fun a ha b hb => by rw [List.mem_singleton.mp hb]; exact fun e => HM.out (e ▸ ha)⟩

set_option maxRecDepth 100000 in
set_option maxHeartbeats 1600000 in
theorem next_c (qb mb B : Nat) (pl vp : Value) (L : List Int) (ps : List PL) (m n : Nat) (w : World) (h : QF w qb mb B pl vp L n) (hp : KeptM qb mb w pl (fun W => PsAt W vp ps)) (hps : ∀ p ∈ ps, p.vs.length ≤ 4096) (hpl : ps.length ≤ 4096) (hin : InPs L ps) (hm : L.length = m + 1) (hl : m ≤ 4095) :
    Calls Tryz.prog 49 #[.pointer (some ⟨qb, 0, none⟩)] w
      fun e w' => ∃ x, e = .returned (.int .i64 x) ∧ ∃ pl' L', (x :: L').Perm L ∧ QF w' qb mb B pl' vp L' n ∧ QSm qb mb w pl w' pl' := by
  have H := Lib.hid h
  have HI := Lib.hid hin
  have CP := Lib.hid (hpop_c qb mb B pl vp L ps m w h.q hp.st hps hpl hin hm hl)
  clear h hp hps hin hm
  go_enter Tryz.func49, Tryz.ntmps49
  go_wp2_with (first
    | (go_at_call 74; (with_reducible refine CP.out.mono ?_); rintro e W1 ⟨x, rfl, pl1, L1, p1, q1, s1⟩; have c2 := q1.c2; have Q1 := Lib.hid q1; have S1 := Lib.hid s1; have P1 := Lib.hid p1; have hx := HI.out x (p1.mem_iff.mp List.mem_cons_self); have T1 := Lib.hid (H.out.s.block (s1.blk mb H.out.s.lt (Ne.symm H.out.ne) (own_apart H.out.q.own H.out.q.lm))); clear q1 s1 p1)
    | (at_delete; refine wpList_delete_set _ rfl _ _ 82 3 rfl 4 Tryz.underlying3 Tryz.underlying82 mb n _ rfl T1.out x rfl (by omega) ?_; intro w5 hs5 hg5; have S5 := Lib.hid hs5; have G5 := Lib.hid hg5; clear hs5 hg5))
  go_ret
  have nd := P1.out.nodup_iff.mpr H.out.nd
  rw [List.nodup_cons] at nd
  refine ⟨x, rfl, pl1, L1, P1.out, ⟨Q1.out.grown G5.out H.out.ne, S5.out.congr (fun j => ?_), nd.2, H.out.ne⟩, S1.out.toM.trans (QSm.of_grown G5.out)⟩
  have hmem : j ∈ L ↔ j = x ∨ j ∈ L1 := by rw [← P1.out.mem_iff]; simp
  by_cases e : j = x
  · subst e; simp [nd.1]
  · simp [hmem, e]
end Go.Proofs.YtajooiainglpmaaGreat
