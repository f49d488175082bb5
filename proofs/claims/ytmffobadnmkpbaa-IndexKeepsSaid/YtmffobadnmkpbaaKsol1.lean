/-
  A RANGE OVER A FUNCTION whose iterator, too, writes memory between two rounds: each side names the blocks that are its own.
  A statement that draws its order, in a round.
-/
import Derived.RangeFuncNested
import Derived.RangeFuncBound
import Derived.RangeFuncCalls
import Derived.RangeFuncLeaves
import Derived.Test.YtmffobadnmkpbaaKlib1
import Derived.OrdersHeld
import Derived.OrdersIn
import Derived.Deep.RegionHeld
namespace Go.Proofs.Ytmffobadnmkpbaa
open Go.RowKit

/-- outside of the blocks M all stays -/
structure Agr (M : Nat → Prop) (W W' : World) : Prop where
  low : Below 0 W W'
  same : ∀ b, b < W.heap.size → ¬ M b → W'.heap[b]? = W.heap[b]?
theorem Agr.refl (M : Nat → Prop) (W : World) : Agr M W W := ⟨Below.refl _ _, fun _ _ _ => rfl⟩
theorem Agr.trans {M M' M'' : Nat → Prop} {A B C : World} (h : Agr M A B) (k : Agr M' B C) (h1 : ∀ b, b < A.heap.size → M b → M'' b) (h2 : ∀ b, b < A.heap.size → M' b → M'' b) : Agr M'' A C :=
  ⟨h.low.trans k.low, fun b hb hn => (k.same b (Nat.lt_of_lt_of_le hb h.low.size) (fun e => hn (h2 b hb e))).trans (h.same b hb (fun e => hn (h1 b hb e)))⟩
theorem Agr.of_below {M : Nat → Prop} {W W' : World} (h : Below W.heap.size W W') : Agr M W W' := ⟨h.mono (Nat.zero_le _), fun b hb _ => h.block b hb⟩
theorem Agr.mono {M M' : Nat → Prop} {A B : World} (h : Agr M A B) (h1 : ∀ b, b < A.heap.size → M b → M' b) : Agr M' A B := ⟨h.low, fun b hb hn => h.same b hb (fun e => hn (h1 b hb e))⟩
theorem Agr.below {M : Nat → Prop} {B : Nat} {W W' : World} (h : Agr M W W') (hB : B ≤ W.heap.size) (hM : ∀ b, M b → B ≤ b) : Below B W W' :=
  ⟨h.low.os, h.low.tape, h.low.output, h.low.size, fun b hb => h.same b (Nat.lt_of_lt_of_le hb hB) (fun e => by have := hM b e; omega)⟩
theorem Agr.putObj (M : Nat → Prop) (W : World) (b : Nat) (o : Obj) (h : M b) : Agr M W (W.putObj b o) :=
  ⟨(Below.refl 0 W).grown (grownBy_putObj' W b o) (Nat.zero_le _) (fun _ _ => Nat.zero_le _), fun _ _ hn => World.putObj_heap_other (fun e => hn (e ▸ h))⟩
/-- what speaks of its own blocks alone -/
def Rests {α : Type} (J : List α → (Nat → Prop) → World → Prop) : Prop := ∀ pre M W W', J pre M W → W.heap.size ≤ W'.heap.size → (∀ b, M b → W'.heap[b]? = W.heap[b]?) → J pre M W'
def Lies {α : Type} (J : List α → (Nat → Prop) → World → Prop) : Prop := ∀ pre M W, J pre M W → ∀ b, M b → b < W.heap.size

/-- how a round may be left -/
def ownPostM {α : Type} (M1 : Nat → Prop) (I : List α → (Nat → Prop) → World → Prop) (Ix : Code → List α → (Nat → Prop) → World → Prop) (xs : List α) (W : World) : Exit → Act → World → Prop
  | .normal, _, W' => ∃ M', (∀ b, M' b → M1 b ∨ W.heap.size ≤ b) ∧ Agr M1 W W' ∧ I xs M' W'
  | .ret, _, W' => ∃ M', (∀ b, M' b → M1 b ∨ W.heap.size ≤ b) ∧ Agr M1 W W' ∧ Ix .ret xs M' W'
  | .exit id, _, W' => ∃ M', (∀ b, M' b → M1 b ∨ W.heap.size ≤ b) ∧ Agr M1 W W' ∧ Ix (.exit id) xs M' W'
  | .goto t, _, W' => ∃ M', (∀ b, M' b → M1 b ∨ W.heap.size ≤ b) ∧ Agr M1 W W' ∧ Ix (.goto t) xs M' W'
  | .panic _, _, _ => False
  | .outgrown, _, _ => False

/-- what a round is to the iterator -/
def RoundM {α : Type} (K : World → Prop) (F : Fence) (n : Nat) (P : Program) (l : Nat) (encs : α → Array Value) (Got : α → World → Prop) (own : α → Nat → Prop) (J Jx : List α → (Nat → Prop) → World → Prop) : Prop :=
  ∀ pre M x W1, K W1 → J pre M W1 → Got x W1 → (∀ b, own x b → b < W1.heap.size ∧ ¬ M b) → YieldAt F n P l (encs x) W1 fun e W' =>
    ∃ M', (∀ b, M' b → (M b ∨ own x b) ∨ W1.heap.size ≤ b) ∧ Agr (fun b => M b ∨ own x b) W1 W' ∧ ((e = .returned (.bool true) ∧ J (pre ++ [x]) M' W') ∨ (e = .returned (.bool false) ∧ Jx (pre ++ [x]) M' W'))
/-- the iterator's contract at a world -/
def SeqM {α : Type} (F : Fence) (n : Nat) (P : Program) (g : Nat) (lb : Array Value) (encs : α → Array Value) (Got : α → World → Prop) (own : α → Nat → Prop) (n0 : Nat) (Done Stop : List α → World → Prop) (M0 : Nat → Prop) (W : World) : Prop :=
  ∀ (l : Nat) (J Jx : List α → (Nat → Prop) → World → Prop), Rests J → Rests Jx → Lies J → Lies Jx → RoundM (Below n0 W) F (n - 1) P l encs Got own J Jx → J [] M0 W →
    CallsIn F n P g (#[.func (.yield l) #[] #[]] ++ lb) W fun e W' => (∃ v, e = .returned v) ∧ Below n0 W W' ∧ ∃ M', ((∃ xs, Done xs W' ∧ J xs M' W') ∨ (∃ pre, Stop pre W' ∧ Jx pre M' W'))

variable {F : Fence} {n : Nat} {P : Program}

theorem wpIn_rangeFunc_M {α : Type} {g : Operand} {ps : Array Tmp} {assign body : Code} {Q : Exit → Act → World → Prop} {a : Act} {w : World}
    (hro : F.round = none) (h1 : 1 ≤ n) {gf : Nat} {lb : Array Value} (hg : a.eval g = .func (.func gf) #[] lb) (hFg : F.fn gf) (eg : ∀ args w, (callFunc gf args).run P w = .ok (.enter gf args) w)
    {encs : α → Array Value} {Got : α → World → Prop} {own : α → Nat → Prop} {Done Stop : List α → World → Prop} {n0 : Nat} {M0 : Nat → Prop}
    (hseq : ∀ W1, Below w.heap.size w W1 → W1.heap.size = w.heap.size + 2 → SeqM F (n - 1) P gf lb encs Got own n0 Done Stop (fun b => M0 b ∨ b = w.heap.size ∨ b = w.heap.size + 1) W1)
    (hn0 : n0 ≤ w.heap.size) (hps : ∀ x, (encs x).size = ps.size)
    (hGot : ∀ x W W', Got x W → W.heap.size ≤ W'.heap.size → (∀ b, own x b → W'.heap[b]? = W.heap[b]?) → Got x W')
    (hDone : ∀ xs W o, Done xs W → Done xs (W.putObj (w.heap.size + 1) o)) (hStop : ∀ xs W o, Stop xs W → Stop xs (W.putObj (w.heap.size + 1) o))
    (I : List α → (Nat → Prop) → World → Prop) (Ix : Code → List α → (Nat → Prop) → World → Prop) (hI : Rests I) (hIx : ∀ c, Rests (Ix c)) (hIl : Lies I) (hIxl : ∀ c, Lies (Ix c)) (h0 : I [] M0 w) (a₁ : α → Act)
    (hassign : ∀ (l : Nat) (x : α) (W : World) (K : Act → World → Prop), K (a₁ x) W →
      assign.wpIn (F.inRound l) (n - 1 - 1) P (Exit.then K (fun _ _ _ => False)) { tmps := (ps.zip (encs x)).foldl (fun t (p, v) => t.setIfInBounds p v) a.tmps, defers := [] } W)
    (hbody : ∀ (l : Nat) (pre : List α) (M : Nat → Prop) (x : α) (W : World), I pre M W → Got x W → (∀ b, own x b → b < W.heap.size ∧ ¬ M b) → w.heap.size ≤ W.heap.size → Below n0 w W →
      body.wpIn (F.inRound l) (n - 1 - 1) P (ownPostM (fun b => M b ∨ own x b) I Ix (pre ++ [x]) W) (a₁ x) W)
    (hdone : ∀ (D : Nat) (xs : List α) (M : Nat → Prop) (W : World), Done xs W → I xs M W → W.heap[D]? = some (.deferred (some [])) → w.heap.size ≤ D → ¬ M D → Below n0 w W → Q .normal { a with defers := { target := .collected D, args := #[] } :: a.defers } W)
    (hstop : ∀ (D : Nat) (c : Code) (pre : List α) (M : Nat → Prop) (W : World), Stop pre W → Ix c pre M W → W.heap[D]? = some (.deferred (some [])) → w.heap.size ≤ D → ¬ M D → Below n0 w W → c.wpIn F n P Q { a with defers := { target := .collected D, args := #[] } :: a.defers } W) :
    (Code.rangeFunc g ps assign body).wpIn F n P Q a w := by
  refine wpIn_rangeFunc ?_
  intro fn hfn
  rw [hro]
  obtain ⟨rec, hrec⟩ : ∃ rec : LoopState → Option Code → Loop, rec = fun st pe => { state := st, pending := pe, fn, tmps := a.tmps, params := ps, assign, body, defers := w.heap.size } := ⟨_, rfl⟩
  obtain ⟨W1, hW1⟩ : ∃ W1, (w.alloc (.deferred (some []))).alloc (.loop (rec .ready none)) = W1 := ⟨_, rfl⟩
  have hL1 : W1.heap[w.heap.size + 1]? = some (.loop (rec .ready none)) := by
    rw [← hW1]; have := World.alloc_heap_new (w.alloc (.deferred (some []))) (.loop (rec .ready none)); rwa [World.size_alloc] at this
  have hK1 : W1.heap[w.heap.size]? = some (.deferred (some [])) := by
    rw [← hW1]; exact (Below.heap_alloc _ _ _ (by simp)).trans (World.alloc_heap_new w _)
  have hb1 : Below w.heap.size w W1 := by
    rw [← hW1]; exact ((Below.refl _ w).alloc (Nat.le_refl _) _).alloc (by simp) _
  have hs1 : W1.heap.size = w.heap.size + 2 := by rw [← hW1]; simp
  have hI1 : I [] M0 W1 := hI _ _ _ _ h0 hb1.size (fun b hb => hb1.block b (hIl _ _ _ h0 b hb))
  refine ⟨w.heap.size + 1, [{ target := .collected w.heap.size, args := #[] }], W1, { target := .fn (.func gf) lb, args := #[.func (.yield (w.heap.size + 1)) #[] #[]] }, W1, gf,
    #[.func (.yield (w.heap.size + 1)) #[] #[]] ++ lb, W1, ?_, ?_, ?_, ?_, fun _ => h1, ?_⟩
  · rw [← hW1, hrec]; exact run_enterLoop_outer _ _ _ _ _
  · simp only [resolve, hg]
    simp [go_sem]
  · intro f' hf'; simp [Target.leads] at hf'; subst hf'; exact hFg
  · simp [invoke, go_sem, eg]
  · refine (hseq W1 hb1 hs1 (w.heap.size + 1)
      (fun pre M W => ∃ M1 : Nat → Prop, I pre M1 W ∧ (∀ b, M b ↔ M1 b ∨ b = w.heap.size ∨ b = w.heap.size + 1) ∧ ¬ M1 w.heap.size ∧ ¬ M1 (w.heap.size + 1) ∧ W.heap[w.heap.size + 1]? = some (.loop (rec .ready none)) ∧ W.heap[w.heap.size]? = some (.deferred (some [])))
      (fun pre M W => ∃ (M1 : Nat → Prop) (c : Code), Ix c pre M1 W ∧ (∀ b, M b ↔ M1 b ∨ b = w.heap.size ∨ b = w.heap.size + 1) ∧ ¬ M1 w.heap.size ∧ ¬ M1 (w.heap.size + 1) ∧ W.heap[w.heap.size + 1]? = some (.loop (rec .done (some c))) ∧ W.heap[w.heap.size]? = some (.deferred (some [])))
      ?_ ?_ ?_ ?_ ?_ ?_).mono ?_
    · rintro pre M W W' ⟨M1, hi, hm, d1, d2, hl, hk⟩ hs hb
      exact ⟨M1, hI _ _ _ _ hi hs (fun b h => hb b ((hm b).2 (.inl h))), hm, d1, d2, (hb _ ((hm _).2 (.inr (.inr rfl)))).trans hl, (hb _ ((hm _).2 (.inr (.inl rfl)))).trans hk⟩
    · rintro pre M W W' ⟨M1, c, hi, hm, d1, d2, hl, hk⟩ hs hb
      exact ⟨M1, c, hIx _ _ _ _ _ hi hs (fun b h => hb b ((hm b).2 (.inl h))), hm, d1, d2, (hb _ ((hm _).2 (.inr (.inr rfl)))).trans hl, (hb _ ((hm _).2 (.inr (.inl rfl)))).trans hk⟩
    · rintro pre M W ⟨M1, hi, hm, d1, d2, hl, hk⟩ b hb
      rcases (hm b).1 hb with h | rfl | rfl
      · exact hIl _ _ _ hi b h
      · exact (Array.getElem?_eq_some_iff.1 hk).1
      · exact (Array.getElem?_eq_some_iff.1 hl).1
    · rintro pre M W ⟨M1, c, hi, hm, d1, d2, hl, hk⟩ b hb
      rcases (hm b).1 hb with h | rfl | rfl
      · exact hIxl _ _ _ _ hi b h
      · exact (Array.getElem?_eq_some_iff.1 hk).1
      · exact (Array.getElem?_eq_some_iff.1 hl).1
    · -- ONE ROUND
      rintro pre M x W hbW ⟨M1, hi, hm, d1, d2, hl, hk⟩ hx hown
      have hlt : w.heap.size + 1 < W.heap.size := (Array.getElem?_eq_some_iff.1 hl).1
      have hy := run_yield (P := P) (args := encs x) hl (by rw [hrec]; exact hps x)
      rw [hrec] at hy
      refine ⟨fn, _, assign, body, hy, roundIn_of_wpIn hfn (hassign _ x W _ ⟨_, run_beginRound hl (by rw [hrec]), ?_⟩)⟩
      have hLo : ¬ own x (w.heap.size + 1) := fun h => (hown _ h).2 ((hm _).2 (.inr (.inr rfl)))
      have hDo : ¬ own x w.heap.size := fun h => (hown _ h).2 ((hm _).2 (.inr (.inl rfl)))
      have hl2 : (W.putObj (w.heap.size + 1) (.loop { rec .ready none with state := .busy })).heap[w.heap.size + 1]? = some (.loop { rec .ready none with state := .busy }) := World.putObj_heap_same hlt
      have hk2 : (W.putObj (w.heap.size + 1) (.loop { rec .ready none with state := .busy })).heap[w.heap.size]? = some (.deferred (some [])) := (World.putObj_heap_other (by omega)).trans hk
      have hs2 : (W.putObj (w.heap.size + 1) (.loop { rec .ready none with state := .busy })).heap.size = W.heap.size := by simp
      have hoth : ∀ b, b ≠ w.heap.size + 1 → (W.putObj (w.heap.size + 1) (.loop { rec .ready none with state := .busy })).heap[b]? = W.heap[b]? := fun b hb => World.putObj_heap_other hb
      have hA2 : Agr (fun b => M b ∨ own x b) W (W.putObj (w.heap.size + 1) (.loop { rec .ready none with state := .busy })) := Agr.putObj _ _ _ _ (.inl ((hm _).2 (.inr (.inr rfl))))
      have hi2 : I pre M1 (W.putObj (w.heap.size + 1) (.loop { rec .ready none with state := .busy })) := hI _ _ _ _ hi (Nat.le_of_eq hs2.symm) (fun b hb => hoth b (fun e => d2 (e ▸ hb)))
      have hx2 : Got x (W.putObj (w.heap.size + 1) (.loop { rec .ready none with state := .busy })) := hGot x W _ hx (Nat.le_of_eq hs2.symm) (fun b hb => hoth b (fun e => hLo (e ▸ hb)))
      have hbw2 : Below n0 w (W.putObj (w.heap.size + 1) (.loop { rec .ready none with state := .busy })) := ((hb1.mono hn0).trans hbW).grown (grownBy_putObj' _ _ _) (by omega) (fun k e => by cases e; omega)
      generalize hW2 : (W.putObj (w.heap.size + 1) (.loop { rec .ready none with state := .busy })) = W2 at *
      clear hW2
      refine wpIn_mono (hbody _ pre M1 x _ hi2 hx2 (fun b hb => ⟨by rw [hs2]; exact (hown b hb).1, fun e => (hown b hb).2 ((hm b).2 (.inl e))⟩) (by omega) hbw2) ?_
      have fin : ∀ (jump : Option Code) (W3 : World) (M' : Nat → Prop), (∀ b, M' b → (M1 b ∨ own x b) ∨ W2.heap.size ≤ b) → Agr (fun b => M1 b ∨ own x b) W2 W3 →
          (Instr.endRound (w.heap.size + 1) jump).run P W3 = .ok (.bool jump.isNone) (W3.putObj (w.heap.size + 1) (.loop (rec (if jump.isNone then .ready else .done) jump))) ∧
          (W3.putObj (w.heap.size + 1) (.loop (rec (if jump.isNone then .ready else .done) jump))).heap[w.heap.size + 1]? = some (.loop (rec (if jump.isNone then .ready else .done) jump)) ∧
          (W3.putObj (w.heap.size + 1) (.loop (rec (if jump.isNone then .ready else .done) jump))).heap[w.heap.size]? = some (.deferred (some [])) ∧
          ¬ M' w.heap.size ∧ ¬ M' (w.heap.size + 1) ∧
          (∀ b, M' b → (W3.putObj (w.heap.size + 1) (.loop (rec (if jump.isNone then .ready else .done) jump))).heap[b]? = W3.heap[b]?) ∧
          W3.heap.size ≤ (W3.putObj (w.heap.size + 1) (.loop (rec (if jump.isNone then .ready else .done) jump))).heap.size ∧
          (∀ b, (M' b ∨ b = w.heap.size ∨ b = w.heap.size + 1) → (M b ∨ own x b) ∨ W.heap.size ≤ b) ∧
          Agr (fun b => M b ∨ own x b) W (W3.putObj (w.heap.size + 1) (.loop (rec (if jump.isNone then .ready else .done) jump))) := fun jump W3 M' hM' hA => by
        have hl3 : W3.heap[w.heap.size + 1]? = some (.loop { rec .ready none with state := .busy }) := (hA.same _ (by omega) (by rintro (h | h); exact d2 h; exact hLo h)).trans hl2
        have hk3 : W3.heap[w.heap.size]? = some (.deferred (some [])) := (hA.same _ (by omega) (by rintro (h | h); exact d1 h; exact hDo h)).trans hk2
        have := run_endRound (P := P) jump hl3
        rw [hrec] at this ⊢
        have nd1 : ¬ M' w.heap.size := fun h => by
          rcases hM' _ h with (h | h) | h
          · exact d1 h
          · exact hDo h
          · omega
        have nd2 : ¬ M' (w.heap.size + 1) := fun h => by
          rcases hM' _ h with (h | h) | h
          · exact d2 h
          · exact hLo h
          · omega
        refine ⟨this, World.putObj_heap_same (Array.getElem?_eq_some_iff.1 hl3).1, (World.putObj_heap_other (by omega)).trans hk3, nd1, nd2, fun b hb => World.putObj_heap_other (fun e => nd2 (e ▸ hb)), by simp, ?_, ?_⟩
        · rintro b (h | rfl | rfl)
          · rcases hM' b h with (h | h) | h
            · exact .inl (.inl ((hm b).2 (.inl h)))
            · exact .inl (.inr h)
            · right; omega
          · exact .inl (.inl ((hm _).2 (.inr (.inl rfl))))
          · exact .inl (.inl ((hm _).2 (.inr (.inr rfl))))
        · refine (hA2.trans hA (M'' := fun b => M b ∨ own x b) (fun b _ h => h) (fun b _ h => ?_)).trans (Agr.putObj (fun b => M b ∨ own x b) W3 _ _ (.inl ((hm _).2 (.inr (.inr rfl))))) (fun b _ h => h) (fun b _ h => h)
          rcases h with h | h
          · exact .inl ((hm b).2 (.inl h))
          · exact .inr h
      rintro e a3 W3 hp
      cases e with
      | normal =>
        obtain ⟨M', hM', hA, hi3⟩ := hp
        obtain ⟨hr, hl4, hk4, n1, n2, hb4, hs4, hm4, hA4⟩ := fin none W3 M' hM' hA
        exact ⟨_, _, hr, _, hm4, hA4, .inl ⟨rfl, M', hI _ _ _ _ hi3 hs4 hb4, fun _ => Iff.rfl, n1, n2, hl4, hk4⟩⟩
      | ret =>
        obtain ⟨M', hM', hA, hi3⟩ := hp
        obtain ⟨hr, hl4, hk4, n1, n2, hb4, hs4, hm4, hA4⟩ := fin (some .ret) W3 M' hM' hA
        exact ⟨_, _, hr, _, hm4, hA4, .inr ⟨rfl, M', .ret, hIx _ _ _ _ _ hi3 hs4 hb4, fun _ => Iff.rfl, n1, n2, hl4, hk4⟩⟩
      | exit id =>
        obtain ⟨M', hM', hA, hi3⟩ := hp
        obtain ⟨hr, hl4, hk4, n1, n2, hb4, hs4, hm4, hA4⟩ := fin (some (.exit id)) W3 M' hM' hA
        exact ⟨_, _, hr, _, hm4, hA4, .inr ⟨rfl, M', .exit id, hIx _ _ _ _ _ hi3 hs4 hb4, fun _ => Iff.rfl, n1, n2, hl4, hk4⟩⟩
      | goto t =>
        obtain ⟨M', hM', hA, hi3⟩ := hp
        obtain ⟨hr, hl4, hk4, n1, n2, hb4, hs4, hm4, hA4⟩ := fin (some (.goto t)) W3 M' hM' hA
        exact ⟨_, _, hr, _, hm4, hA4, .inr ⟨rfl, M', .goto t, hIx _ _ _ _ _ hi3 hs4 hb4, fun _ => Iff.rfl, n1, n2, hl4, hk4⟩⟩
      | panic ch => exact hp.elim
      | outgrown => exact hp.elim
    · exact ⟨M0, hI1, fun _ => Iff.rfl, fun h => by have := hIl _ _ _ h0 _ h; omega, fun h => by have := hIl _ _ _ h0 _ h; omega, hL1, hK1⟩
    · -- BEHIND THE ITERATOR
      rintro e W2 ⟨⟨v, rfl⟩, hB2, M', (⟨xs, hS, M1, hi, hm, d1, d2, hl, hk⟩ | ⟨pre, hSp, M1, c, hi, hm, d1, d2, hl, hk⟩)⟩
      · refine ⟨none, _, by have := run_endLoop (P := P) hl (by rw [hrec]; simp); rw [hrec] at this; exact this, hdone _ xs M1 _ (hDone _ _ _ hS) (hI _ _ _ _ hi (by simp) (fun b hb => World.putObj_heap_other (fun e => d2 (e ▸ hb)))) ((World.putObj_heap_other (by omega)).trans hk) (Nat.le_refl _) d1 ?_⟩
        exact ((hb1.mono hn0).trans hB2).grown (grownBy_putObj' _ _ _) (by have := hB2.size; omega) (fun k e => by cases e; omega)
      · refine ⟨some c, _, by have := run_endLoop (P := P) hl (by rw [hrec]; simp); rw [hrec] at this; exact this, hstop _ c pre M1 _ (hStop _ _ _ hSp) (hIx c _ _ _ _ hi (by simp) (fun b hb => World.putObj_heap_other (fun e => d2 (e ▸ hb)))) ((World.putObj_heap_other (by omega)).trans hk) (Nat.le_refl _) d1 ?_⟩
        exact ((hb1.mono hn0).trans hB2).grown (grownBy_putObj' _ _ _) (by have := hB2.size; omega) (fun k e => by cases e; omega)
end Go.Proofs.Ytmffobadnmkpbaa
namespace Go.Proofs.Ytmffobadnmkpbaa
open Go.RowKit

theorem wpIn_round_op {l n i : Nat} {P : Program} {ops : Array Oper} {Q : Exit → Act → World → Prop} {K : Act → World → Prop} {a : Act} {w : World} (hd : ∀ (j : Nat) (o : Oper) c, ops[j]? = some o → o.op ≠ .defer c) (hQ : ¬ LetsOut Q)
    (h : wpOp P ops Q i K a w) : wpOpIn (Fence.wide.inRound l) n P ops Q i K a w := by
  unfold wpOp at h
  unfold wpOpIn
  split
  · rename_i h0
    simp only [h0] at h
    exact h
  · rename_i o ho
    simp only [ho] at h
    split
    · rename_i hw
      simp only [hw, if_true] at h
      rcases h with h | h
      · refine ⟨fun f _ => trivial, ?_⟩
        rw [Oper.semAt_eq _ _ _ (fun c => hd i o c ho)]
        unfold Oper.wp at h
        generalize (execOp a.eval o).run P w = r at *
        cases r with
        | ok x w' =>
          cases x <;> simp only [Oper.upon, Oper.uponIn] at h ⊢
          case value => exact h
          case skip => exact h
          case defer => exact h
          case enter f args => exact ⟨fun h => by simp [Fence.wide] at h, CallsIn.inRound l (callsIn_wide.2 h)⟩
          case row row args => exact ⟨fun h => by simp [Fence.wide] at h, fun c cs _ => let ⟨v, w', r, s⟩ := h c cs; ⟨v, w', r, stepsIn_wide.2 s⟩⟩
        | halt x w' =>
          cases x <;> simp only [Oper.upon, Oper.uponIn] at h ⊢
          case panic => exact h
      · exact absurd h.2 hQ
    · rename_i hw
      simp only [hw] at h
      exact ⟨fun f _ => trivial, h⟩
theorem wpAnyIn_round {l n : Nat} {P : Program} {ops : Array Oper} {Q : Exit → Act → World → Prop} {md : Region.Mode} (hd : ∀ (j : Nat) (o : Oper) c, ops[j]? = some o → o.op ≠ .defer c) (hQ : ¬ LetsOut Q) :
    ∀ (fuel : Nat) (listed : Array Bool) (a : Act) (w : World), wpAny P md ops Q fuel listed a w → wpAnyIn (Fence.wide.inRound l) n P md ops Q fuel listed a w
  | 0, _, _, _, h => h
  | fuel + 1, _, _, _, h => ⟨h.1, fun i hi => wpOpIn_mono (fun a w => wpAnyIn_round hd hQ fuel _ a w) (wpIn_round_op hd hQ (h.2 i hi))⟩
/-- **a statement that draws its order, in a round: by the same moves as in an activation** -/
theorem wpIn_region_round {l n id : Nat} {P : Program} {ops : Array Oper} {Q : Exit → Act → World → Prop} {S : World → Prop} {a : Act} {w : World} (hm : P.follows .mixedOrders = true) (hd : ∀ (j : Nat) (o : Oper) c, ops[j]? = some o → o.op ≠ .defer c) (hQ : ¬ LetsOut Q)
    (hS : S w.drew) (h : S w.drew → wpAnyH P .any ops Q S ops.size (Array.replicate ops.size false) a w.drew) : (Code.region id ops true).wpIn (Fence.wide.inRound l) n P Q a w :=
  wpIn_region_any hm (wpAnyIn_round hd hQ _ _ _ _ (wpAny_of_held _ _ _ _ (h hS)))
/-- the same, where it does not panic -/
theorem wpIn_region_roundK {l n id : Nat} {P : Program} {ops : Array Oper} {K : Act → World → Prop} {Q' : Exit → Act → World → Prop} {S : World → Prop} {a : Act} {w : World} (hm : P.follows .mixedOrders = true) (hd : ∀ (j : Nat) (o : Oper) c, ops[j]? = some o → o.op ≠ .defer c)
    (hS : S w.drew) (h : S w.drew → wpAnyH P .any ops (Exit.then K (fun _ _ _ => False)) S ops.size (Array.replicate ops.size false) a w.drew) : (Code.region id ops true).wpIn (Fence.wide.inRound l) n P (Exit.then K Q') a w :=
  wpIn_mono (wpIn_region_round hm hd (by rintro ⟨a, w, h⟩; exact h) hS h) (by
    intro e a w h
    cases e <;> first | exact h | exact h.elim)
/-- an operation taken first, its place told -/
theorem wpAnyH_takeD {P : Program} {ops : Array Oper} {Q : Exit → Act → World → Prop} {md : Region.Mode} {S : World → Prop} {i : Nat} {oi : Oper} {d : Option Tmp} {v : Value} {fuel : Nat} {listed : Array Bool} {a : Act} {w : World} (hi : ops[i]? = some oi) (hd : oi.dst = d)
    (hs : Region.noSelect ops = true) (hf : Region.free md ops listed i = true) (hr : (Region.ready md ops listed).contains i = true) (hQ : ∀ c a w, Q (.panic c) (a.put oi.dst v) w → Q (.panic c) a w)
    (hy : YieldsIf P ops S oi v a) (hS : S w) (h : wpAnyH P md ops Q S fuel (listed.setIfInBounds i true) (a.put d v) w) : wpAnyH P md ops Q S (fuel + 1) listed a w := by
  subst hd
  exact wpAnyH_take hi hs hf hr hQ hy hS h
/-- no operation of a list is one that defers -/
theorem noDefer_of {ops : Array Oper} (h : ops.all (fun o => match o.op with | .defer _ => false | _ => true) = true) : ∀ (j : Nat) (o : Oper) c, ops[j]? = some o → o.op ≠ .defer c := fun j o c ho e => by
  have hm : o ∈ ops := Array.mem_of_getElem? ho
  have := (Array.all_eq_true' ..).1 h o hm
  rw [e] at this
  simp at this
end Go.Proofs.Ytmffobadnmkpbaa
