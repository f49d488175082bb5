/-
  PROBLEMS THAT COME IN: domains and constraints in one struct.
  A RANGE OVER A FUNCTION whose iterator, too, writes memory between two rounds: each side names the blocks that are its own.
  Sets that lie wholly from a block on: what else is written does not touch them.
  SETS whose blocks are good ones: they stay while others are written; a stack of lists of sets.
-/
import Derived.Test.YtaekdgikgbdnnaaGreatKfix1
import Derived.Test.YtaekdgikgbdnnaaGreatKlabel1
import Derived.RangeFuncNested
import Derived.RangeFuncBound
import Derived.RangeFuncCalls
import Derived.RangeFuncLeaves
import Derived.Test.YtaekdgikgbdnnaaGreatKlib1
import Derived.Test.YtaekdgikgbdnnaaGreatKonce8
namespace Go.Proofs.YtaekdgikgbdnnaaGreat
open Go.RowKit Go.ChangeShapes Go.WideShapes Go.ChangeAt

set_option maxRecDepth 100000 in
theorem open_dssL {H : Type} {enc : TypeId × Value → H} {w : World} {sp : Nat → Bool} {held : Bool} {fuel : Nat} {v : Value} {y : DataW H × List MemPlace}
    (h : DataW.trod enc Tryz.prog w 0 sp held fuel 22 [v] = some y) : ∃ ds : Ds, DsAt w v ds := by
  obtain ⟨d, ps⟩ := y
  obtain ⟨n, us, hS, hE⟩ := open_sl (k := 1) Tryz.underlying22 cellsRgsL h
  have hl := hS.len
  have hx : ∀ i, i < n → ∃ r : List Rg, ∃ u, us[i]? = some u ∧ RgAt w u r := fun i hi => by
    obtain ⟨m, y, hy⟩ := hE i hi
    have hi' : i < us.length := by omega
    have e : (us.drop (i * 1)).take 1 = [us[i]] := by rw [Nat.mul_one, List.drop_eq_getElem_cons hi']; rfl
    rw [e] at hy
    obtain ⟨rs, hr⟩ := rgs_of hy
    exact ⟨rs, us[i], List.getElem?_eq_getElem hi', hr⟩
  obtain ⟨f, hf⟩ := Deep.choose_lt hx
  refine ⟨(List.range n).map f, us, by simp; omega, by simpa using hS, fun j hj => ?_⟩
  have hj' : j < n := by simpa using hj
  obtain ⟨u, e1, e2⟩ := hf j hj'
  exact ⟨u, e1, by simpa using e2⟩
set_option maxRecDepth 100000 in
theorem open_propsL {H : Type} {enc : TypeId × Value → H} {w : World} {sp : Nat → Bool} {held : Bool} {fuel : Nat} {v : Value} {y : DataW H × List MemPlace}
    (h : DataW.trod enc Tryz.prog w 0 sp held fuel 23 [v] = some y) : ∃ l : List PL, PsAt w v l := by
  obtain ⟨d, pp⟩ := y
  obtain ⟨n, us, hS, hE⟩ := open_sl (k := 9) Tryz.underlying23 cellsProp h
  have hl := hS.len
  have hx : ∀ i, i < n → ∃ p : PL, ∃ va vb vv, us[i * 9]? = some (.int .i64 p.kind) ∧ us[i * 9 + 1]? = some va ∧ us[i * 9 + 2]? = some vb ∧ us[i * 9 + 3]? = some (.int .i64 p.rel) ∧ us[i * 9 + 4]? = some (.int .i64 p.c) ∧
      us[i * 9 + 5]? = some (.int .i64 p.x) ∧ us[i * 9 + 6]? = some (.int .i64 p.y) ∧ us[i * 9 + 7]? = some (.int .i64 p.z) ∧ us[i * 9 + 8]? = some vv ∧ IsAt w va p.coef ∧ IsAt w vb p.vars ∧ IsAt w vv p.vs := fun i hi => by
    obtain ⟨m, y, hy⟩ := hE i hi
    have g : ∀ k, k < 9 → i * 9 + k < us.length := fun k hk => by omega
    have e : (us.drop (i * 9)).take 9 = [us[i * 9]'(by omega), us[i * 9 + 1]'(by omega), us[i * 9 + 2]'(by omega), us[i * 9 + 3]'(by omega), us[i * 9 + 4]'(by omega), us[i * 9 + 5]'(by omega), us[i * 9 + 6]'(by omega), us[i * 9 + 7]'(by omega), us[i * 9 + 8]'(by omega)] := by
      apply List.ext_getElem
      · simp; omega
      · intro j h1 h2
        have hj : j < 9 := by simpa using h2
        rw [List.getElem_take, List.getElem_drop]
        match j, hj with
        | 0, _ => rfl | 1, _ => rfl | 2, _ => rfl | 3, _ => rfl | 4, _ => rfl | 5, _ => rfl | 6, _ => rfl | 7, _ => rfl | 8, _ => rfl
    rw [e] at hy
    obtain ⟨kind, rel, c, x, yy, z, coef, vars, vs, e0, e3, e4, e5, e6, e7, i1, i2, i8⟩ := open_propL hy
    refine ⟨⟨kind, rel, c, x, yy, z, coef, vars, vs⟩, _, _, _, ?_, List.getElem?_eq_getElem (by omega), List.getElem?_eq_getElem (by omega), ?_, ?_, ?_, ?_, ?_, List.getElem?_eq_getElem (by omega), i1, i2, i8⟩
    · rw [List.getElem?_eq_getElem (by omega), e0]
    · rw [List.getElem?_eq_getElem (by omega), e3]
    · rw [List.getElem?_eq_getElem (by omega), e4]
    · rw [List.getElem?_eq_getElem (by omega), e5]
    · rw [List.getElem?_eq_getElem (by omega), e6]
    · rw [List.getElem?_eq_getElem (by omega), e7]
  haveI : Inhabited PL := ⟨⟨0, 0, 0, 0, 0, 0, [], [], []⟩⟩
  obtain ⟨f, hf⟩ := Deep.choose_lt hx
  obtain ⟨h1, ao, cap, he, h2, h3, h5, h4⟩ := hS
  refine ⟨(List.range n).map f, ao, cap, by rw [he]; simp, by simpa using h2, h3, fun hp => ?_⟩
  have hn : 0 < n := by simpa using hp
  obtain ⟨b, off, rfl, hlt, hc⟩ := h4 (by omega)
  refine ⟨b, off, rfl, hlt, fun j hj => ?_⟩
  have hj' : j < n := by simpa using hj
  obtain ⟨va, vb, vv, g0, g1, g2, g3, g4, g5, g6, g7, g8, i1, i2, i8⟩ := hf j hj'
  rw [show ((List.range n).map f)[j] = f j by simp]
  refine ⟨va, vb, vv, ⟨?_, ?_, ?_, ?_, ?_, ?_, ?_, ?_, ?_⟩, i1, i2, i8⟩
  · rw [hc (j * 9) (by omega), g0]
  · rw [Nat.add_assoc, hc (j * 9 + 1) (by omega), g1]
  · rw [Nat.add_assoc, hc (j * 9 + 2) (by omega), g2]
  · rw [Nat.add_assoc, hc (j * 9 + 3) (by omega), g3]
  · rw [Nat.add_assoc, hc (j * 9 + 4) (by omega), g4]
  · rw [Nat.add_assoc, hc (j * 9 + 5) (by omega), g5]
  · rw [Nat.add_assoc, hc (j * 9 + 6) (by omega), g6]
  · rw [Nat.add_assoc, hc (j * 9 + 7) (by omega), g7]
  · rw [Nat.add_assoc, hc (j * 9 + 8) (by omega), g8]
theorem cellsCase : Tryz.prog.cellsOf 25 = 2 := by kernel_rfl
theorem cellsDssC : Tryz.prog.cellsOf 22 = 1 := by kernel_rfl
theorem cellsPropsC : Tryz.prog.cellsOf 23 = 1 := by kernel_rfl
set_option maxRecDepth 100000 in
theorem open_case {H : Type} {enc : TypeId × Value → H} {w : World} {base : Nat} {sp : Nat → Bool} {held : Bool} {v : Value} {d : DataW H} {ps : List MemPlace}
    (hval : Value.okWide Tryz.prog w .any base 25 v) (h : DataW.Trod enc Tryz.prog w 0 sp held 25 v d ps) :
    ∃ vd vp, ∃ (ds : Ds) (l : List PL), v = .agg #[vd, vp] ∧ DsAt w vd ds ∧ PsAt w vp l := by
  obtain ⟨cs, rfl, hsz⟩ := okWide_struct Tryz.underlying25 hval
  obtain ⟨c0, c1, rfl⟩ : ∃ c0 c1, cs = #[c0, c1] := by
    have h2 := hsz.trans cellsCase
    obtain ⟨l⟩ := cs
    match l, h2 with
    | [c0, c1], _ => exact ⟨c0, c1, rfl⟩
  obtain ⟨fuel, hf⟩ := h
  obtain ⟨xs, n, _, _, _, hlen, hF⟩ := DataW.trod_struct Tryz.underlying25 hf
  match xs, hlen with
  | [y0, y1], _ =>
    have g0 := hF 0 _ rfl
    have g1 := hF 1 _ rfl
    simp [cellsDssC, cellsPropsC] at g0 g1
    obtain ⟨ds, hd⟩ := open_dssL g0
    obtain ⟨l, hl⟩ := open_propsL g1
    exact ⟨c0, c1, ds, l, rfl, hd, hl⟩
end Go.Proofs.YtaekdgikgbdnnaaGreat
namespace Go.Proofs.YtaekdgikgbdnnaaGreat
open Go.RowKit

/-- outside of the blocks M all stays -/
structure Agr (M : Nat → Prop) (W W' : World) : Prop where
  low : Below 0 W W'
  same : ∀ b, b < W.heap.size → ¬ M b → W'.heap[b]? = W.heap[b]?
theorem Agr.refl (M : Nat → Prop) (W : World) : Agr M W W := ⟨Below.refl _ _, fun _ _ _ => rfl⟩
theorem Agr.trans {M M' M'' : Nat → Prop} {A B C : World} (h : Agr M A B) (k : Agr M' B C) (h1 : ∀ b, b < A.heap.size → M b → M'' b) (h2 : ∀ b, b < A.heap.size → M' b → M'' b) : Agr M'' A C :=
  ⟨h.low.trans k.low, fun b hb hn => (k.same b (Nat.lt_of_lt_of_le hb h.low.size) (fun e => hn (h2 b hb e))).trans (h.same b hb (fun e => hn (h1 b hb e)))⟩
theorem Agr.of_below {M : Nat → Prop} {W W' : World} (h : Below W.heap.size W W') : Agr M W W' := ⟨h.mono (Nat.zero_le _), fun b hb _ => h.block b hb⟩
theorem Agr.mono {M M' : Nat → Prop} {A B : World} (h : Agr M A B) (h1 : ∀ b, b < A.heap.size → M b → M' b) : Agr M' A B := ⟨h.low, fun b hb hn => h.same b hb (fun e => hn (h1 b hb e))⟩
theorem Agr.below {M : Nat → Prop} {B : Nat} {W W' : World} (h : Agr M W W') (hB : B ≤ W.heap.size) (hM : ∀ b, M b → B ≤ b) : Below B W W' :=
  ⟨h.low.os, h.low.tape, h.low.output, h.low.size, fun b hb => h.same b (Nat.lt_of_lt_of_le hb hB) (fun e => by have := hM b e; omega)⟩
theorem Agr.putObj (M : Nat → Prop) (W : World) (b : Nat) (o : Obj) (h : M b) : Agr M W (W.putObj b o) :=
  ⟨(Below.refl 0 W).grown (grownBy_putObj' W b o) (Nat.zero_le _) (fun _ _ => Nat.zero_le _), fun _ _ hn => World.putObj_heap_other (fun e => hn (e ▸ h))⟩
/-- what speaks of its own blocks alone -/
def Rests {α : Type} (J : List α → (Nat → Prop) → World → Prop) : Prop := ∀ pre M W W', J pre M W → W.heap.size ≤ W'.heap.size → (∀ b, M b → W'.heap[b]? = W.heap[b]?) → J pre M W'
def Lies {α : Type} (J : List α → (Nat → Prop) → World → Prop) : Prop := ∀ pre M W, J pre M W → ∀ b, M b → b < W.heap.size

/-- how a round may be left -/
def ownPostM {α : Type} (M1 : Nat → Prop) (I : List α → (Nat → Prop) → World → Prop) (Ix : Code → List α → (Nat → Prop) → World → Prop) (xs : List α) (W : World) : Exit → Act → World → Prop
  | .normal, _, W' => ∃ M', (∀ b, M' b → M1 b ∨ W.heap.size ≤ b) ∧ Agr M1 W W' ∧ I xs M' W'
  | .ret, _, W' => ∃ M', (∀ b, M' b → M1 b ∨ W.heap.size ≤ b) ∧ Agr M1 W W' ∧ Ix .ret xs M' W'
  | .exit id, _, W' => ∃ M', (∀ b, M' b → M1 b ∨ W.heap.size ≤ b) ∧ Agr M1 W W' ∧ Ix (.exit id) xs M' W'
  | .goto t, _, W' => ∃ M', (∀ b, M' b → M1 b ∨ W.heap.size ≤ b) ∧ Agr M1 W W' ∧ Ix (.goto t) xs M' W'
  | .panic _, _, _ => False
  | .outgrown, _, _ => False

/-- what a round is to the iterator -/
def RoundM {α : Type} (K : World → Prop) (F : Fence) (n : Nat) (P : Program) (l : Nat) (encs : α → Array Value) (Got : α → World → Prop) (own : α → Nat → Prop) (J Jx : List α → (Nat → Prop) → World → Prop) : Prop :=
  ∀ pre M x W1, K W1 → J pre M W1 → Got x W1 → (∀ b, own x b → b < W1.heap.size ∧ ¬ M b) → YieldAt F n P l (encs x) W1 fun e W' =>
    ∃ M', (∀ b, M' b → (M b ∨ own x b) ∨ W1.heap.size ≤ b) ∧ Agr (fun b => M b ∨ own x b) W1 W' ∧ ((e = .returned (.bool true) ∧ J (pre ++ [x]) M' W') ∨ (e = .returned (.bool false) ∧ Jx (pre ++ [x]) M' W'))
/-- the iterator's contract at a world -/
def SeqM {α : Type} (F : Fence) (n : Nat) (P : Program) (g : Nat) (lb : Array Value) (encs : α → Array Value) (Got : α → World → Prop) (own : α → Nat → Prop) (n0 : Nat) (Done Stop : List α → World → Prop) (M0 : Nat → Prop) (W : World) : Prop :=
  ∀ (l : Nat) (J Jx : List α → (Nat → Prop) → World → Prop), Rests J → Rests Jx → Lies J → Lies Jx → RoundM (Below n0 W) F (n - 1) P l encs Got own J Jx → J [] M0 W →
    CallsIn F n P g (#[.func (.yield l) #[] #[]] ++ lb) W fun e W' => (∃ v, e = .returned v) ∧ Below n0 W W' ∧ ∃ M', ((∃ xs, Done xs W' ∧ J xs M' W') ∨ (∃ pre, Stop pre W' ∧ Jx pre M' W'))

variable {F : Fence} {n : Nat} {P : Program}

theorem wpIn_rangeFunc_M {α : Type} {g : Operand} {ps : Array Tmp} {assign body : Code} {Q : Exit → Act → World → Prop} {a : Act} {w : World}
    (hro : F.round = none) (h1 : 1 ≤ n) {gf : Nat} {lb : Array Value} (hg : a.eval g = .func (.func gf) #[] lb) (hFg : F.fn gf) (eg : ∀ args w, (callFunc gf args).run P w = .ok (.enter gf args) w)
    {encs : α → Array Value} {Got : α → World → Prop} {own : α → Nat → Prop} {Done Stop : List α → World → Prop} {n0 : Nat} {M0 : Nat → Prop}
    (hseq : ∀ W1, Below w.heap.size w W1 → W1.heap.size = w.heap.size + 2 → SeqM F (n - 1) P gf lb encs Got own n0 Done Stop (fun b => M0 b ∨ b = w.heap.size ∨ b = w.heap.size + 1) W1)
    (hn0 : n0 ≤ w.heap.size) (hps : ∀ x, (encs x).size = ps.size)
    (hGot : ∀ x W W', Got x W → W.heap.size ≤ W'.heap.size → (∀ b, own x b → W'.heap[b]? = W.heap[b]?) → Got x W')
    (hDone : ∀ xs W o, Done xs W → Done xs (W.putObj (w.heap.size + 1) o)) (hStop : ∀ xs W o, Stop xs W → Stop xs (W.putObj (w.heap.size + 1) o))
    (I : List α → (Nat → Prop) → World → Prop) (Ix : Code → List α → (Nat → Prop) → World → Prop) (hI : Rests I) (hIx : ∀ c, Rests (Ix c)) (hIl : Lies I) (hIxl : ∀ c, Lies (Ix c)) (h0 : I [] M0 w) (a₁ : α → Act)
    (hassign : ∀ (l : Nat) (x : α) (W : World) (K : Act → World → Prop), K (a₁ x) W →
      assign.wpIn (F.inRound l) (n - 1 - 1) P (Exit.then K (fun _ _ _ => False)) { tmps := (ps.zip (encs x)).foldl (fun t (p, v) => t.setIfInBounds p v) a.tmps, defers := [] } W)
    (hbody : ∀ (l : Nat) (pre : List α) (M : Nat → Prop) (x : α) (W : World), I pre M W → Got x W → (∀ b, own x b → b < W.heap.size ∧ ¬ M b) → w.heap.size ≤ W.heap.size → Below n0 w W →
      body.wpIn (F.inRound l) (n - 1 - 1) P (ownPostM (fun b => M b ∨ own x b) I Ix (pre ++ [x]) W) (a₁ x) W)
    (hdone : ∀ (D : Nat) (xs : List α) (M : Nat → Prop) (W : World), Done xs W → I xs M W → W.heap[D]? = some (.deferred (some [])) → w.heap.size ≤ D → ¬ M D → Below n0 w W → Q .normal { a with defers := { target := .collected D, args := #[] } :: a.defers } W)
    (hstop : ∀ (D : Nat) (c : Code) (pre : List α) (M : Nat → Prop) (W : World), Stop pre W → Ix c pre M W → W.heap[D]? = some (.deferred (some [])) → w.heap.size ≤ D → ¬ M D → Below n0 w W → c.wpIn F n P Q { a with defers := { target := .collected D, args := #[] } :: a.defers } W) :
    (Code.rangeFunc g ps assign body).wpIn F n P Q a w := by
  refine wpIn_rangeFunc ?_
  intro fn hfn
  rw [hro]
  obtain ⟨rec, hrec⟩ : ∃ rec : LoopState → Option Code → Loop, rec = fun st pe => { state := st, pending := pe, fn, tmps := a.tmps, params := ps, assign, body, defers := w.heap.size } := ⟨_, rfl⟩
  obtain ⟨W1, hW1⟩ : ∃ W1, (w.alloc (.deferred (some []))).alloc (.loop (rec .ready none)) = W1 := ⟨_, rfl⟩
  have hL1 : W1.heap[w.heap.size + 1]? = some (.loop (rec .ready none)) := by
    rw [← hW1]; have := World.alloc_heap_new (w.alloc (.deferred (some []))) (.loop (rec .ready none)); rwa [World.size_alloc] at this
  have hK1 : W1.heap[w.heap.size]? = some (.deferred (some [])) := by
    rw [← hW1]; exact (Below.heap_alloc _ _ _ (by simp)).trans (World.alloc_heap_new w _)
  have hb1 : Below w.heap.size w W1 := by
    rw [← hW1]; exact ((Below.refl _ w).alloc (Nat.le_refl _) _).alloc (by simp) _
  have hs1 : W1.heap.size = w.heap.size + 2 := by rw [← hW1]; simp
  have hI1 : I [] M0 W1 := hI _ _ _ _ h0 hb1.size (fun b hb => hb1.block b (hIl _ _ _ h0 b hb))
  refine ⟨w.heap.size + 1, [{ target := .collected w.heap.size, args := #[] }], W1, { target := .fn (.func gf) lb, args := #[.func (.yield (w.heap.size + 1)) #[] #[]] }, W1, gf,
    #[.func (.yield (w.heap.size + 1)) #[] #[]] ++ lb, W1, ?_, ?_, ?_, ?_, fun _ => h1, ?_⟩
  · rw [← hW1, hrec]; exact run_enterLoop_outer _ _ _ _ _
  · simp only [resolve, hg]
    simp [go_sem]
  · intro f' hf'; simp [Target.leads] at hf'; subst hf'; exact hFg
  · simp [invoke, go_sem, eg]
  · refine (hseq W1 hb1 hs1 (w.heap.size + 1)
      (fun pre M W => ∃ M1 : Nat → Prop, I pre M1 W ∧ (∀ b, M b ↔ M1 b ∨ b = w.heap.size ∨ b = w.heap.size + 1) ∧ ¬ M1 w.heap.size ∧ ¬ M1 (w.heap.size + 1) ∧ W.heap[w.heap.size + 1]? = some (.loop (rec .ready none)) ∧ W.heap[w.heap.size]? = some (.deferred (some [])))
      (fun pre M W => ∃ (M1 : Nat → Prop) (c : Code), Ix c pre M1 W ∧ (∀ b, M b ↔ M1 b ∨ b = w.heap.size ∨ b = w.heap.size + 1) ∧ ¬ M1 w.heap.size ∧ ¬ M1 (w.heap.size + 1) ∧ W.heap[w.heap.size + 1]? = some (.loop (rec .done (some c))) ∧ W.heap[w.heap.size]? = some (.deferred (some [])))
      ?_ ?_ ?_ ?_ ?_ ?_).mono ?_
    · rintro pre M W W' ⟨M1, hi, hm, d1, d2, hl, hk⟩ hs hb
      exact ⟨M1, hI _ _ _ _ hi hs (fun b h => hb b ((hm b).2 (.inl h))), hm, d1, d2, (hb _ ((hm _).2 (.inr (.inr rfl)))).trans hl, (hb _ ((hm _).2 (.inr (.inl rfl)))).trans hk⟩
    · rintro pre M W W' ⟨M1, c, hi, hm, d1, d2, hl, hk⟩ hs hb
      exact ⟨M1, c, hIx _ _ _ _ _ hi hs (fun b h => hb b ((hm b).2 (.inl h))), hm, d1, d2, (hb _ ((hm _).2 (.inr (.inr rfl)))).trans hl, (hb _ ((hm _).2 (.inr (.inl rfl)))).trans hk⟩
    · rintro pre M W ⟨M1, hi, hm, d1, d2, hl, hk⟩ b hb
      rcases (hm b).1 hb with h | rfl | rfl
      · exact hIl _ _ _ hi b h
      · exact (Array.getElem?_eq_some_iff.1 hk).1
      · exact (Array.getElem?_eq_some_iff.1 hl).1
    · rintro pre M W ⟨M1, c, hi, hm, d1, d2, hl, hk⟩ b hb
      rcases (hm b).1 hb with h | rfl | rfl
      · exact hIxl _ _ _ _ hi b h
      · exact (Array.getElem?_eq_some_iff.1 hk).1
      · exact (Array.getElem?_eq_some_iff.1 hl).1
    · -- ONE ROUND
      rintro pre M x W hbW ⟨M1, hi, hm, d1, d2, hl, hk⟩ hx hown
      have hlt : w.heap.size + 1 < W.heap.size := (Array.getElem?_eq_some_iff.1 hl).1
      have hy := run_yield (P := P) (args := encs x) hl (by rw [hrec]; exact hps x)
      rw [hrec] at hy
      refine ⟨fn, _, assign, body, hy, roundIn_of_wpIn hfn (hassign _ x W _ ⟨_, run_beginRound hl (by rw [hrec]), ?_⟩)⟩
      have hLo : ¬ own x (w.heap.size + 1) := fun h => (hown _ h).2 ((hm _).2 (.inr (.inr rfl)))
      have hDo : ¬ own x w.heap.size := fun h => (hown _ h).2 ((hm _).2 (.inr (.inl rfl)))
      have hl2 : (W.putObj (w.heap.size + 1) (.loop { rec .ready none with state := .busy })).heap[w.heap.size + 1]? = some (.loop { rec .ready none with state := .busy }) := World.putObj_heap_same hlt
      have hk2 : (W.putObj (w.heap.size + 1) (.loop { rec .ready none with state := .busy })).heap[w.heap.size]? = some (.deferred (some [])) := (World.putObj_heap_other (by omega)).trans hk
      have hs2 : (W.putObj (w.heap.size + 1) (.loop { rec .ready none with state := .busy })).heap.size = W.heap.size := by simp
      have hoth : ∀ b, b ≠ w.heap.size + 1 → (W.putObj (w.heap.size + 1) (.loop { rec .ready none with state := .busy })).heap[b]? = W.heap[b]? := fun b hb => World.putObj_heap_other hb
      have hA2 : Agr (fun b => M b ∨ own x b) W (W.putObj (w.heap.size + 1) (.loop { rec .ready none with state := .busy })) := Agr.putObj _ _ _ _ (.inl ((hm _).2 (.inr (.inr rfl))))
      have hi2 : I pre M1 (W.putObj (w.heap.size + 1) (.loop { rec .ready none with state := .busy })) := hI _ _ _ _ hi (Nat.le_of_eq hs2.symm) (fun b hb => hoth b (fun e => d2 (e ▸ hb)))
      have hx2 : Got x (W.putObj (w.heap.size + 1) (.loop { rec .ready none with state := .busy })) := hGot x W _ hx (Nat.le_of_eq hs2.symm) (fun b hb => hoth b (fun e => hLo (e ▸ hb)))
      have hbw2 : Below n0 w (W.putObj (w.heap.size + 1) (.loop { rec .ready none with state := .busy })) := ((hb1.mono hn0).trans hbW).grown (grownBy_putObj' _ _ _) (by omega) (fun k e => by cases e; omega)
      generalize hW2 : (W.putObj (w.heap.size + 1) (.loop { rec .ready none with state := .busy })) = W2 at *
      clear hW2
      refine wpIn_mono (hbody _ pre M1 x _ hi2 hx2 (fun b hb => ⟨by rw [hs2]; exact (hown b hb).1, fun e => (hown b hb).2 ((hm b).2 (.inl e))⟩) (by omega) hbw2) ?_
      have fin : ∀ (jump : Option Code) (W3 : World) (M' : Nat → Prop), (∀ b, M' b → (M1 b ∨ own x b) ∨ W2.heap.size ≤ b) → Agr (fun b => M1 b ∨ own x b) W2 W3 →
          (Instr.endRound (w.heap.size + 1) jump).run P W3 = .ok (.bool jump.isNone) (W3.putObj (w.heap.size + 1) (.loop (rec (if jump.isNone then .ready else .done) jump))) ∧
          (W3.putObj (w.heap.size + 1) (.loop (rec (if jump.isNone then .ready else .done) jump))).heap[w.heap.size + 1]? = some (.loop (rec (if jump.isNone then .ready else .done) jump)) ∧
          (W3.putObj (w.heap.size + 1) (.loop (rec (if jump.isNone then .ready else .done) jump))).heap[w.heap.size]? = some (.deferred (some [])) ∧
          ¬ M' w.heap.size ∧ ¬ M' (w.heap.size + 1) ∧
          (∀ b, M' b → (W3.putObj (w.heap.size + 1) (.loop (rec (if jump.isNone then .ready else .done) jump))).heap[b]? = W3.heap[b]?) ∧
          W3.heap.size ≤ (W3.putObj (w.heap.size + 1) (.loop (rec (if jump.isNone then .ready else .done) jump))).heap.size ∧
          (∀ b, (M' b ∨ b = w.heap.size ∨ b = w.heap.size + 1) → (M b ∨ own x b) ∨ W.heap.size ≤ b) ∧
          Agr (fun b => M b ∨ own x b) W (W3.putObj (w.heap.size + 1) (.loop (rec (if jump.isNone then .ready else .done) jump))) := fun jump W3 M' hM' hA => by
        have hl3 : W3.heap[w.heap.size + 1]? = some (.loop { rec .ready none with state := .busy }) := (hA.same _ (by omega) (by rintro (h | h); exact d2 h; exact hLo h)).trans hl2
        have hk3 : W3.heap[w.heap.size]? = some (.deferred (some [])) := (hA.same _ (by omega) (by rintro (h | h); exact d1 h; exact hDo h)).trans hk2
        have := run_endRound (P := P) jump hl3
        rw [hrec] at this ⊢
        have nd1 : ¬ M' w.heap.size := fun h => by
          rcases hM' _ h with (h | h) | h
          · exact d1 h
          · exact hDo h
          · omega
        have nd2 : ¬ M' (w.heap.size + 1) := fun h => by
          rcases hM' _ h with (h | h) | h
          · exact d2 h
          · exact hLo h
          · omega
        refine ⟨this, World.putObj_heap_same (Array.getElem?_eq_some_iff.1 hl3).1, (World.putObj_heap_other (by omega)).trans hk3, nd1, nd2, fun b hb => World.putObj_heap_other (fun e => nd2 (e ▸ hb)), by simp, ?_, ?_⟩
        · rintro b (h | rfl | rfl)
          · rcases hM' b h with (h | h) | h
            · exact .inl (.inl ((hm b).2 (.inl h)))
            · exact .inl (.inr h)
            · right; omega
          · exact .inl (.inl ((hm _).2 (.inr (.inl rfl))))
          · exact .inl (.inl ((hm _).2 (.inr (.inr rfl))))
        · refine (hA2.trans hA (M'' := fun b => M b ∨ own x b) (fun b _ h => h) (fun b _ h => ?_)).trans (Agr.putObj (fun b => M b ∨ own x b) W3 _ _ (.inl ((hm _).2 (.inr (.inr rfl))))) (fun b _ h => h) (fun b _ h => h)
          rcases h with h | h
          · exact .inl ((hm b).2 (.inl h))
          · exact .inr h
      rintro e a3 W3 hp
      cases e with
      | normal =>
        obtain ⟨M', hM', hA, hi3⟩ := hp
        obtain ⟨hr, hl4, hk4, n1, n2, hb4, hs4, hm4, hA4⟩ := fin none W3 M' hM' hA
        exact ⟨_, _, hr, _, hm4, hA4, .inl ⟨rfl, M', hI _ _ _ _ hi3 hs4 hb4, fun _ => Iff.rfl, n1, n2, hl4, hk4⟩⟩
      | ret =>
        obtain ⟨M', hM', hA, hi3⟩ := hp
        obtain ⟨hr, hl4, hk4, n1, n2, hb4, hs4, hm4, hA4⟩ := fin (some .ret) W3 M' hM' hA
        exact ⟨_, _, hr, _, hm4, hA4, .inr ⟨rfl, M', .ret, hIx _ _ _ _ _ hi3 hs4 hb4, fun _ => Iff.rfl, n1, n2, hl4, hk4⟩⟩
      | exit id =>
        obtain ⟨M', hM', hA, hi3⟩ := hp
        obtain ⟨hr, hl4, hk4, n1, n2, hb4, hs4, hm4, hA4⟩ := fin (some (.exit id)) W3 M' hM' hA
        exact ⟨_, _, hr, _, hm4, hA4, .inr ⟨rfl, M', .exit id, hIx _ _ _ _ _ hi3 hs4 hb4, fun _ => Iff.rfl, n1, n2, hl4, hk4⟩⟩
      | goto t =>
        obtain ⟨M', hM', hA, hi3⟩ := hp
        obtain ⟨hr, hl4, hk4, n1, n2, hb4, hs4, hm4, hA4⟩ := fin (some (.goto t)) W3 M' hM' hA
        exact ⟨_, _, hr, _, hm4, hA4, .inr ⟨rfl, M', .goto t, hIx _ _ _ _ _ hi3 hs4 hb4, fun _ => Iff.rfl, n1, n2, hl4, hk4⟩⟩
      | panic ch => exact hp.elim
      | outgrown => exact hp.elim
    · exact ⟨M0, hI1, fun _ => Iff.rfl, fun h => by have := hIl _ _ _ h0 _ h; omega, fun h => by have := hIl _ _ _ h0 _ h; omega, hL1, hK1⟩
    · -- BEHIND THE ITERATOR
      rintro e W2 ⟨⟨v, rfl⟩, hB2, M', (⟨xs, hS, M1, hi, hm, d1, d2, hl, hk⟩ | ⟨pre, hSp, M1, c, hi, hm, d1, d2, hl, hk⟩)⟩
      · refine ⟨none, _, by have := run_endLoop (P := P) hl (by rw [hrec]; simp); rw [hrec] at this; exact this, hdone _ xs M1 _ (hDone _ _ _ hS) (hI _ _ _ _ hi (by simp) (fun b hb => World.putObj_heap_other (fun e => d2 (e ▸ hb)))) ((World.putObj_heap_other (by omega)).trans hk) (Nat.le_refl _) d1 ?_⟩
        exact ((hb1.mono hn0).trans hB2).grown (grownBy_putObj' _ _ _) (by have := hB2.size; omega) (fun k e => by cases e; omega)
      · refine ⟨some c, _, by have := run_endLoop (P := P) hl (by rw [hrec]; simp); rw [hrec] at this; exact this, hstop _ c pre M1 _ (hStop _ _ _ hSp) (hIx c _ _ _ _ hi (by simp) (fun b hb => World.putObj_heap_other (fun e => d2 (e ▸ hb)))) ((World.putObj_heap_other (by omega)).trans hk) (Nat.le_refl _) d1 ?_⟩
        exact ((hb1.mono hn0).trans hB2).grown (grownBy_putObj' _ _ _) (by have := hB2.size; omega) (fun k e => by cases e; omega)
end Go.Proofs.YtaekdgikgbdnnaaGreat
namespace Go.Proofs.YtaekdgikgbdnnaaGreat
open Go.RowKit

/-- a list of sets that hangs on blocks from B on alone -/
def DsFrom (B : Nat) (W : World) (v : Value) (d : Ds) : Prop :=
  ∃ us : List Value, us.length = d.length ∧ SlAt W 1 v d.length us ∧ (∀ b, v.ownBlock = some b → B ≤ b) ∧ ∀ j, (hj : j < d.length) → ∃ u, us[j]? = some u ∧ RgAt W u d[j] ∧ ∀ b, u.ownBlock = some b → B ≤ b
theorem DsFrom.here {B : Nat} {W : World} {v : Value} {d : Ds} (h : DsFrom B W v d) : DsAt W v d := by
  obtain ⟨us, h1, h2, h3, h4⟩ := h
  exact ⟨us, h1, h2, fun j hj => by obtain ⟨u, a, b, _⟩ := h4 j hj; exact ⟨u, a, b⟩⟩
theorem DsFrom.on {B : Nat} {W W' : World} {v : Value} {d : Ds} (h : DsFrom B W v d) (hs : W.heap.size ≤ W'.heap.size) (hb : ∀ b, B ≤ b → b < W.heap.size → W'.heap[b]? = W.heap[b]?) : DsFrom B W' v d := by
  obtain ⟨us, h1, h2, h3, h4⟩ := h
  exact ⟨us, h1, h2.ownB hs (fun b hb' e => hb b (h3 b e) hb'), h3, fun j hj => by
    obtain ⟨u, a, b, c⟩ := h4 j hj
    exact ⟨u, a, SlAt.ownB b hs (fun b' hb' e => hb b' (c b' e) hb'), c⟩⟩
theorem DsFrom.below {B : Nat} {W W' : World} {v : Value} {d : Ds} (h : DsFrom B W v d) (hb : Below W.heap.size W W') : DsFrom B W' v d := h.on hb.size (fun b _ h2 => hb.block b h2)
theorem DsFrom.mono {B C : Nat} {W : World} {v : Value} {d : Ds} (h : DsFrom B W v d) (hc : C ≤ B) : DsFrom C W v d := by
  obtain ⟨us, h1, h2, h3, h4⟩ := h
  exact ⟨us, h1, h2, fun b e => Nat.le_trans hc (h3 b e), fun j hj => by
    obtain ⟨u, a, b, c⟩ := h4 j hj
    exact ⟨u, a, b, fun b' e => Nat.le_trans hc (c b' e)⟩⟩
/-- whose sets' own blocks lie from B on -/
def NewEl (B : Nat) (W : World) (g n : Nat) : Prop := ∀ j, j < n → ∀ u, W.cell? ⟨g, j, none⟩ = some u → ∀ b, u.ownBlock = some b → B ≤ b
theorem DsOwn.from {B : Nat} {W : World} {g n cap : Nat} {d : Ds} (h : DsOwn W B (.slice (some ⟨g, 0, none⟩) n cap) d) (hg : B ≤ g) (hn : NewEl B W g d.length) (hd : n = d.length) : DsFrom B W (.slice (some ⟨g, 0, none⟩) n cap) d := by
  subst hd
  have hown := h
  obtain ⟨us, h1, h2, h3⟩ := h
  refine ⟨us, h1, SlAt.of_own h2, fun b e => ?_, fun j hj => ?_⟩
  · simp [Value.ownBlock] at e; omega
  · obtain ⟨u, e1, e2⟩ := h3 j hj
    refine ⟨u, e1, e2, fun b e => hn j hj u ?_ b e⟩
    obtain ⟨g', cap', ao', c', he, _, _, _, hc, _, _⟩ := hown.get j hj
    simp only [Value.slice.injEq, Option.some.injEq, Addr.mk.injEq, and_true] at he
    obtain ⟨rfl, _⟩ := he
    rw [h2.cellAt j (by omega), e1]
theorem OutAt.from {W : World} {B bo g : Nat} {d : Ds} (h : OutAt W B bo g d) : DsFrom B W (.slice (some ⟨g, 0, none⟩) d.length d.length) d := DsOwn.from h.own h.gl h.new rfl
theorem kept_from {W : World} {B C qb mb : Nat} {pl v : Value} {d : Ds} (h : DsFrom C W v d) (hc : B ≤ C) (ho : Old C qb mb pl) : KeptM qb mb W pl (fun W' => DsFrom B W' v d) :=
  fun _ _ hs => DsFrom.mono (h.on hs.b0.size (fun _ hb hb' => ho.keeps hs hb hb')) hc
/-- what Fix hands back, in new memory -/
def RetF (r : Option Ds) (w : World) (e : Ending) (w' : World) : Prop :=
  Below w.heap.size w w' ∧ ((∃ ds ao cap, r = some ds ∧ e = .returned (.tuple #[.slice ao ds.length cap, .bool true]) ∧ DsFrom w.heap.size w' (.slice ao ds.length cap) ds) ∨ (r = none ∧ e = .returned (.tuple #[.slice none 0 0, .bool false])))
theorem RetF.toO {r : Option Ds} {w w' : World} {e : Ending} (h : RetF r w e w') : RetO r w e w' := by
  obtain ⟨h1, ⟨ds, ao, cap, a, b, c⟩ | h2⟩ := h
  · exact ⟨h1, .inl ⟨ds, ao, cap, a, b, c.here⟩⟩
  · exact ⟨h1, .inr h2⟩
theorem NewEl.made (w : World) (n : Nat) (hn : n ≤ 4096) (B : Nat) (T : TypeId) : NewEl B (w.alloc (.cells (madeCells #[.slice none 0 0] n) T)) w.heap.size n := by
  intro j hj u hu b e
  have h3 := World.ownsRow_lit (base := w.heap.size) w (madeCells #[.slice none 0 0] n) n (e := T) (size := 1) (Nat.le_refl _) (by unfold maxLen; omega) (by simp [size_madeCells])
  rw [toList_madeCells_one] at h3
  obtain ⟨g2, cap2, he, _, hcs⟩ := owns_pos h3 (by omega)
  simp only [Value.slice.injEq, Option.some.injEq, Addr.mk.injEq, and_true] at he
  obtain ⟨hg2, _⟩ := he
  subst hg2
  have h4 := hcs j (by omega)
  rw [List.getElem?_replicate, if_pos hj] at h4
  rw [h4] at hu
  injection hu with hu
  subst hu
  simp [Value.ownBlock] at e
theorem NewEl.set {B : Nat} {W : World} {g n k : Nat} {u z : Value} (h : NewEl B W g n) (hz : W.cell? ⟨g, k, none⟩ = some z) (hu : ∀ b, u.ownBlock = some b → B ≤ b) : NewEl B (W.setCell ⟨g, k, none⟩ u) g n := by
  intro j hj x hx b hb
  by_cases e : k = j
  · subst e
    rw [World.cell?_setCell_same _ _ _ hz] at hx
    injection hx with hx
    exact hu b (by rw [hx]; exact hb)
  · rw [World.cell?_setCell_other _ _ _ _ (fun h => by cases h; exact e rfl)] at hx
    exact h j hj x hx b hb
theorem NewEl.below {B : Nat} {W W' : World} {g n : Nat} (h : NewEl B W g n) (hb : Below W.heap.size W W') (hg : g < W.heap.size) : NewEl B W' g n := fun j hj u hu b e => h j hj u (by rw [← hb.cell (p := ⟨g, j, none⟩) hg]; exact hu) b e
end Go.Proofs.YtaekdgikgbdnnaaGreat
namespace Go.Proofs.YtaekdgikgbdnnaaGreat
open Go.RowKit

theorem SlAt.ownP {w w' : World} {k : Nat} {v : Value} {n : Nat} {xs : List Value} (h : SlAt w k v n xs) (hs : w.heap.size ≤ w'.heap.size) (hb : 0 < n * k → ∀ b, b < w.heap.size → v.ownBlock = some b → w'.heap[b]? = w.heap[b]?) : SlAt w' k v n xs := by
  obtain ⟨h1, ao, cap, rfl, h2, h3, h5, h4⟩ := h
  refine ⟨h1, ao, cap, rfl, h2, h3, h5, fun hp => ?_⟩
  obtain ⟨b, off, rfl, hlt, hc⟩ := h4 hp
  refine ⟨b, off, rfl, Nat.lt_of_lt_of_le hlt hs, fun j hj => ?_⟩
  rw [← hc j hj]
  exact World.cell?_of_block (a := ⟨b, off + j, none⟩) (hb hp b hlt rfl)
theorem SlAt.live {w : World} {k : Nat} {v : Value} {n : Nat} {xs : List Value} (h : SlAt w k v n xs) (hp : 0 < n * k) : ∀ b, v.ownBlock = some b → b < w.heap.size := fun b hb => by
  obtain ⟨h1, ao, cap, rfl, h2, h3, h5, h4⟩ := h
  obtain ⟨b', off, rfl, hlt, hc⟩ := h4 hp
  simp [Value.ownBlock] at hb; omega
/-- a set whose block is a good one -/
def RgQ (Q : Nat → Prop) (W : World) (u : Value) (d : List Rg) : Prop := RgAt W u d ∧ (d ≠ [] → ∀ b, u.ownBlock = some b → Q b)
theorem pos2 {d : List Rg} (h : d ≠ []) : 0 < d.length * 2 := by have := List.length_pos_iff.2 h; omega
theorem ne2 {d : List Rg} (h : 0 < d.length * 2) : d ≠ [] := fun e => by subst e; simp at h
theorem RgQ.on {Q : Nat → Prop} {W W' : World} {u : Value} {d : List Rg} (h : RgQ Q W u d) (hs : W.heap.size ≤ W'.heap.size) (hb : ∀ b, b < W.heap.size → Q b → W'.heap[b]? = W.heap[b]?) : RgQ Q W' u d :=
  ⟨SlAt.ownP h.1 hs (fun hp b hb' e => hb b hb' (h.2 (ne2 hp) b e)), h.2⟩
theorem RgQ.weaken {Q Q' : Nat → Prop} {W : World} {u : Value} {d : List Rg} (h : RgQ Q W u d) (hq : ∀ b, b < W.heap.size → Q b → Q' b) : RgQ Q' W u d :=
  ⟨h.1, fun hne b e => hq b (SlAt.live h.1 (pos2 hne) b e) (h.2 hne b e)⟩
theorem RgQ.of_new {Q : Nat → Prop} {W : World} {u : Value} {d : List Rg} {B : Nat} (h : RgAt W u d) (hn : ∀ b, u.ownBlock = some b → B ≤ b) (hq : ∀ b, B ≤ b → Q b) : RgQ Q W u d := ⟨h, fun _ b e => hq b (hn b e)⟩
/-- a list of sets whose blocks are all good -/
def DsQ (Q : Nat → Prop) (W : World) (v : Value) (D : Ds) : Prop :=
  ∃ us : List Value, us.length = D.length ∧ SlAt W 1 v D.length us ∧ (D ≠ [] → ∀ b, v.ownBlock = some b → Q b) ∧ ∀ j, (hj : j < D.length) → ∃ u, us[j]? = some u ∧ RgQ Q W u D[j]
theorem DsQ.at {Q : Nat → Prop} {W : World} {v : Value} {D : Ds} (h : DsQ Q W v D) : DsAt W v D := by
  obtain ⟨us, h1, h2, h3, h4⟩ := h
  exact ⟨us, h1, h2, fun j hj => by obtain ⟨u, a, b⟩ := h4 j hj; exact ⟨u, a, b.1⟩⟩
theorem DsQ.on {Q : Nat → Prop} {W W' : World} {v : Value} {D : Ds} (h : DsQ Q W v D) (hs : W.heap.size ≤ W'.heap.size) (hb : ∀ b, b < W.heap.size → Q b → W'.heap[b]? = W.heap[b]?) : DsQ Q W' v D := by
  obtain ⟨us, h1, h2, h3, h4⟩ := h
  exact ⟨us, h1, h2.ownP hs (fun hp b hb' e => hb b hb' (h3 (fun e => by subst e; simp at hp) b e)), h3, fun j hj => by obtain ⟨u, a, b⟩ := h4 j hj; exact ⟨u, a, b.on hs hb⟩⟩
theorem DsQ.below {Q : Nat → Prop} {W W' : World} {v : Value} {D : Ds} (h : DsQ Q W v D) (hb : Below W.heap.size W W') : DsQ Q W' v D := h.on hb.size (fun b h _ => hb.block b h)
theorem DsQ.weaken {Q Q' : Nat → Prop} {W : World} {v : Value} {D : Ds} (h : DsQ Q W v D) (hq : ∀ b, b < W.heap.size → Q b → Q' b) : DsQ Q' W v D := by
  obtain ⟨us, h1, h2, h3, h4⟩ := h
  exact ⟨us, h1, h2, fun hne b e => hq b (h2.live (by have := List.length_pos_iff.2 hne; omega) b e) (h3 hne b e), fun j hj => by obtain ⟨u, a, b⟩ := h4 j hj; exact ⟨u, a, b.weaken hq⟩⟩
/-- what hangs on newer blocks alone has good ones -/
theorem DsFrom.good {B : Nat} {W : World} {v : Value} {D : Ds} {Q : Nat → Prop} (h : DsFrom B W v D) (hq : ∀ b, B ≤ b → Q b) : DsQ Q W v D := by
  obtain ⟨us, h1, h2, h3, h4⟩ := h
  exact ⟨us, h1, h2, fun _ b e => hq b (h3 b e), fun j hj => by obtain ⟨u, a, b, c⟩ := h4 j hj; exact ⟨u, a, b, fun _ b e => hq b (c b e)⟩⟩
theorem DsQ.get {Q : Nat → Prop} {W : World} {v : Value} {D : Ds} (h : DsQ Q W v D) (j : Nat) (hj : j < D.length) : ∃ u, RgQ Q W u D[j] := by
  obtain ⟨us, h1, h2, h3, h4⟩ := h
  obtain ⟨u, _, b⟩ := h4 j hj
  exact ⟨u, b⟩
/-- all that may not be written elsewhere stays: input and good blocks -/
theorem DsQ.of_input {Q : Nat → Prop} {w W : World} {v : Value} {D : Ds} (h : DsAt w v D) (hb : Below w.heap.size w W) (hq : ∀ b, b < w.heap.size → Q b) : DsQ Q W v D := by
  obtain ⟨us, h1, h2, h3⟩ := h
  refine ⟨us, h1, h2.below hb, fun hne b e => hq b (h2.live (by have := List.length_pos_iff.2 hne; omega) b e), fun j hj => ?_⟩
  obtain ⟨u, a, c⟩ := h3 j hj
  exact ⟨u, a, c.below hb, fun hne b e => hq b (SlAt.live c (pos2 hne) b e)⟩

/-! ### the stack -/
/-- a stack of lists of sets in a row of its own: the last one is the first -/
structure StAt (Q : Nat → Prop) (W : World) (B g cap : Nat) (st : List Ds) (us : List Value) : Prop where
  len : us.length = st.length
  own : W.ownsRow B 22 1 (.slice (some ⟨g, 0, none⟩) st.length cap) st.length us
  good : Q g
  el : ∀ j, (hj : j < st.length) → ∃ u, us[j]? = some u ∧ DsQ (fun b => Q b ∧ b ≠ g) W u (st.reverse[j]'(by rw [List.length_reverse]; exact hj))
theorem ownsRow_same {W W' : World} {B e size n : Nat} {v : Value} {xs : List Value} (h : W.ownsRow B e size v n xs) (hb : ∀ b, v.ownBlock = some b → W'.heap[b]? = W.heap[b]?) : W'.ownsRow B e size v n xs := own_block h hb
theorem StAt.on {Q : Nat → Prop} {W W' : World} {B g cap : Nat} {st : List Ds} {us : List Value} (h : StAt Q W B g cap st us) (hs : W.heap.size ≤ W'.heap.size) (hb : ∀ b, b < W.heap.size → Q b → W'.heap[b]? = W.heap[b]?) : StAt Q W' B g cap st us :=
  ⟨h.len, own_block h.own (fun b e => by
    have h1 := (own_lt h.own e).1
    have : b = g := by simpa [Value.ownBlock] using e.symm
    exact hb b h1 (this ▸ h.good)), h.good, fun j hj => by
    obtain ⟨u, a, b⟩ := h.el j hj
    exact ⟨u, a, b.on hs (fun b' h1 h2 => hb b' h1 h2.1)⟩⟩
theorem StAt.below {Q : Nat → Prop} {W W' : World} {B g cap : Nat} {st : List Ds} {us : List Value} (h : StAt Q W B g cap st us) (hb : Below W.heap.size W W') : StAt Q W' B g cap st us := h.on hb.size (fun b h _ => hb.block b h)
theorem StAt.lt {Q : Nat → Prop} {W : World} {B g cap : Nat} {st : List Ds} {us : List Value} (h : StAt Q W B g cap st us) : B ≤ g ∧ g < W.heap.size := by
  have := own_lt h.own (b := g) rfl
  exact ⟨this.2, this.1⟩
theorem StAt.weaken {Q Q' : Nat → Prop} {W : World} {B g cap : Nat} {st : List Ds} {us : List Value} (h : StAt Q W B g cap st us) (hq : ∀ b, b < W.heap.size → Q b → Q' b) : StAt Q' W B g cap st us :=
  ⟨h.len, h.own, hq g h.lt.2 h.good, fun j hj => by
    obtain ⟨u, a, b⟩ := h.el j hj
    exact ⟨u, a, b.weaken (fun b' h1 h2 => ⟨hq b' h1 h2.1, h2.2⟩)⟩⟩
/-- its top -/
theorem StAt.top {Q : Nat → Prop} {W : World} {B g cap : Nat} {D : Ds} {st : List Ds} {us : List Value} (h : StAt Q W B g cap (D :: st) us) :
    ∃ ao c, W.cell? ⟨g, st.length, none⟩ = some (.slice ao D.length c) ∧ DsQ (fun b => Q b ∧ b ≠ g) W (.slice ao D.length c) D := by
  obtain ⟨u, a, b⟩ := h.el st.length (by simp)
  have e : (D :: st).reverse[st.length]'(by simp) = D := by simp
  rw [e] at b
  obtain ⟨ao, c, rfl, _⟩ := b.at.shape
  refine ⟨ao, c, ?_, b⟩
  rw [h.own.cellAt st.length (by simp), a]
theorem own_shrink {W : World} {B e g cap n : Nat} {us : List Value} (h : W.ownsRow B e 1 (.slice (some ⟨g, 0, none⟩) (n + 1) cap) (n + 1) us) : W.ownsRow B e 1 (.slice (some ⟨g, 0, none⟩) n cap) n (us.take n) := by
  obtain ⟨h1, h2⟩ := h
  rcases h2 with ⟨h3, _⟩ | ⟨g', cap', cur, he, a1, a2, a3, a4, a5, a6⟩
  · cases h3
  · simp only [Value.slice.injEq, Option.some.injEq, Addr.mk.injEq, and_true, true_and] at he
    obtain ⟨rfl, rfl⟩ := he
    refine ⟨by rw [List.length_take, h1]; omega, .inr ⟨g, cap, cur, rfl, a1, a2, by omega, a4, a5, ?_⟩⟩
    rw [← a6, List.take_take]
    congr 1
    omega
/-- the top is taken off -/
theorem StAt.pop {Q : Nat → Prop} {W : World} {B g cap : Nat} {D : Ds} {st : List Ds} {us : List Value} (h : StAt Q W B g cap (D :: st) us) : StAt Q W B g cap st (us.take st.length) := by
  refine ⟨by rw [List.length_take, h.len, List.length_cons]; omega, own_shrink h.own, h.good, fun j hj => ?_⟩
  obtain ⟨u, a, b⟩ := h.el j (by rw [List.length_cons]; omega)
  have e : (D :: st).reverse[j]'(by simp; omega) = st.reverse[j]'(by rw [List.length_reverse]; exact hj) := by
    simp only [List.reverse_cons]
    rw [List.getElem_append_left (by rw [List.length_reverse]; exact hj)]
  rw [e] at b
  exact ⟨u, by rw [List.getElem?_take, if_pos hj]; exact a, b⟩
/-- two more on it: the row may have moved -/
theorem StAt.push {Q : Nat → Prop} {W W' : World} {B g cap g' cap' : Nat} {st : List Ds} {us : List Value} (h : StAt Q W B g cap st us) {a b : Ds} {ua ub : Value}
    (ha : DsQ (fun b => Q b ∧ b ≠ g) W ua a) (hb : DsQ (fun b => Q b ∧ b ≠ g) W ub b)
    (ho : W'.ownsRow B 22 1 (.slice (some ⟨g', 0, none⟩) (st.length + 2) cap') (st.length + 2) (us ++ [ub, ua])) (hs : W.heap.size ≤ W'.heap.size)
    (hk : ∀ k, k < W.heap.size → k ≠ g → W'.heap[k]? = W.heap[k]?) (hg : g' = g ∨ (W.heap.size ≤ g' ∧ Q g')) : StAt Q W' B g' cap' (a :: b :: st) (us ++ [ub, ua]) := by
  have hon : ∀ {u : Value} {D : Ds}, DsQ (fun b => Q b ∧ b ≠ g) W u D → DsQ (fun b => Q b ∧ b ≠ g') W' u D := fun {u D} h0 => by
    have h1 := h0.weaken (Q' := fun b => Q b ∧ b ≠ g ∧ b ≠ g') (fun b h1 h2 => ⟨h2.1, h2.2, by
      rcases hg with e | ⟨e, _⟩
      · rw [e]; exact h2.2
      · omega⟩)
    have h2 := h1.on (W' := W') hs (fun b h1 h2 => hk b h1 h2.2.1)
    exact h2.weaken (fun b _ h2 => ⟨h2.1, h2.2.2⟩)
  refine ⟨by simp [h.len], ho, ?_, fun j hj => ?_⟩
  · rcases hg with e | ⟨_, e⟩
    · rw [e]; exact h.good
    · exact e
  · rw [List.length_cons, List.length_cons] at hj
    by_cases h1 : j < st.length
    · obtain ⟨u, e1, e2⟩ := h.el j h1
      have e : (a :: b :: st).reverse[j]'(by simp; omega) = st.reverse[j]'(by rw [List.length_reverse]; exact h1) := by
        simp only [List.reverse_cons, List.append_assoc]
        rw [List.getElem_append_left (by rw [List.length_reverse]; exact h1)]
      rw [e]
      exact ⟨u, by rw [List.getElem?_append_left (by rw [h.len]; exact h1)]; exact e1, hon e2⟩
    · by_cases h2 : j = st.length
      · subst h2
        have e : (a :: b :: st).reverse[st.length]'(by simp) = b := by simp
        rw [e]
        exact ⟨ub, by rw [List.getElem?_append_right (by rw [h.len]; exact Nat.le_refl _), h.len]; simp, hon hb⟩
      · obtain rfl : j = st.length + 1 := by omega
        have e : (a :: b :: st).reverse[st.length + 1]'(by simp) = a := by simp
        rw [e]
        exact ⟨ua, by rw [List.getElem?_append_right (by rw [h.len]; omega), h.len]; simp, hon ha⟩
/-- one list of sets alone -/
theorem StAt.one {Q : Nat → Prop} {W : World} {v : Value} {D : Ds} (h : DsQ Q W v D) (hq : Q W.heap.size) {B : Nat} (hB : B ≤ W.heap.size) : StAt Q (W.alloc (.cells #[v] 22)) B W.heap.size 1 [D] [v] := by
  refine ⟨rfl, ?_, hq, fun j hj => ?_⟩
  · have := World.ownsRow_lit (base := B) W #[v] 1 (e := 22) (size := 1) hB (by decide) rfl
    exact this
  · obtain rfl : j = 0 := by simpa using hj
    refine ⟨v, rfl, ?_⟩
    have h1 := (h.weaken (Q' := fun b => Q b ∧ b ≠ W.heap.size) (fun b h1 h2 => ⟨h2, by omega⟩)).below ((Below.refl _ W).alloc (Nat.le_refl _) (.cells #[v] 22))
    exact h1
end Go.Proofs.YtaekdgikgbdnnaaGreat
