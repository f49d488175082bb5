/-
  A RANGE OVER A FUNCTION whose round lays memory for its variables ahead of the body (a variable that is boxed): each side names the blocks that are its own.
  index.named and its iterator, walked.
  index.keyed and the document's Clash, walked.
  index.Clash and the document's, walked.
-/
import Derived.Test.YtmffobadnmkpbaaKsol1
import Derived.Test.YtmffobadnmkpbaaKnorm1
import Derived.Test.YtmffobadnmkpbaaKpars1
import Derived.Deep.RegionHeld3
import Derived.Deep.Cut
import Derived.Deep.LoopGhost
import Derived.Test.YtmffobadnmkpbaaKtm1
import Derived.BigQuiet
import Derived.Handy
import Derived.Laws.StructEq
import Derived.RegionTactic
import Derived.BigRegion
namespace Go.Proofs.Ytmffobadnmkpbaa
open Go.RowKit

/-- what a round is to the iterator -/
def RoundL {α : Type} (K : World → Prop) (F : Fence) (n : Nat) (P : Program) (l : Nat) (encs : α → Array Value) (Got : List α → α → World → Prop) (own : α → Nat → Prop) (J Jx : List α → (Nat → Prop) → World → Prop) : Prop :=
  ∀ pre M x W1, K W1 → J pre M W1 → Got pre x W1 → (∀ b, own x b → b < W1.heap.size ∧ ¬ M b) → YieldAt F n P l (encs x) W1 fun e W' =>
    ∃ M', (∀ b, M' b → (M b ∨ own x b) ∨ W1.heap.size ≤ b) ∧ Agr (fun b => M b ∨ own x b) W1 W' ∧ ((e = .returned (.bool true) ∧ J (pre ++ [x]) M' W') ∨ (e = .returned (.bool false) ∧ Jx (pre ++ [x]) M' W'))
/-- the iterator's contract at a world -/
def SeqL {α : Type} (F : Fence) (n : Nat) (P : Program) (g : Nat) (lb : Array Value) (encs : α → Array Value) (Got : List α → α → World → Prop) (own : α → Nat → Prop) (n0 : Nat) (Done Stop : List α → World → Prop) (M0 : Nat → Prop) (W : World) : Prop :=
  ∀ (l : Nat) (J Jx : List α → (Nat → Prop) → World → Prop), Rests J → Rests Jx → Lies J → Lies Jx → RoundL (Below n0 W) F (n - 1) P l encs Got own J Jx → J [] M0 W →
    CallsIn F n P g (#[.func (.yield l) #[] #[]] ++ lb) W fun e W' => (∃ v, e = .returned v) ∧ Below n0 W W' ∧ ∃ M', ((∃ xs, Done xs W' ∧ J xs M' W') ∨ (∃ pre, Stop pre W' ∧ Jx pre M' W'))

variable {F : Fence} {n : Nat} {P : Program}

theorem wpIn_rangeFunc_L {α : Type} {g : Operand} {ps : Array Tmp} {assign body : Code} {Q : Exit → Act → World → Prop} {a : Act} {w : World}
    (hro : F.round = none) (h1 : 1 ≤ n) {gf : Nat} {lb : Array Value} (hg : a.eval g = .func (.func gf) #[] lb) (hFg : F.fn gf) (eg : ∀ args w, (callFunc gf args).run P w = .ok (.enter gf args) w)
    {encs : α → Array Value} {Got : List α → α → World → Prop} {own : α → Nat → Prop} {Done Stop : List α → World → Prop} {n0 : Nat} {M0 : Nat → Prop}
    (hseq : ∀ W1, Below w.heap.size w W1 → W1.heap.size = w.heap.size + 2 → SeqL F (n - 1) P gf lb encs Got own n0 Done Stop (fun b => M0 b ∨ b = w.heap.size ∨ b = w.heap.size + 1) W1)
    (hn0 : n0 ≤ w.heap.size) (hps : ∀ x, (encs x).size = ps.size)
    (hGot : ∀ pre x W W', Got pre x W → W.heap.size ≤ W'.heap.size → (∀ b, own x b → W'.heap[b]? = W.heap[b]?) → Got pre x W')
    (hDone : ∀ xs W o, Done xs W → Done xs (W.putObj (w.heap.size + 1) o)) (hStop : ∀ xs W o, Stop xs W → Stop xs (W.putObj (w.heap.size + 1) o))
    (I : List α → (Nat → Prop) → World → Prop) (Ix : Code → List α → (Nat → Prop) → World → Prop) (hI : Rests I) (hIx : ∀ c, Rests (Ix c)) (hIl : Lies I) (hIxl : ∀ c, Lies (Ix c)) (h0 : I [] M0 w) (a₁ : α → World → Act) (wa : α → World → World) (hwa : ∀ x W, Below W.heap.size W (wa x W)) (Laid : α → World → World → Prop)
    (hLaid : ∀ x W o, w.heap.size + 1 < W.heap.size → Laid x W ((wa x W).putObj (w.heap.size + 1) o))
    (hassign : ∀ (l : Nat) (x : α) (W : World) (K : Act → World → Prop), K (a₁ x W) (wa x W) →
      assign.wpIn (F.inRound l) (n - 1 - 1) P (Exit.then K (fun _ _ _ => False)) { tmps := (ps.zip (encs x)).foldl (fun t (p, v) => t.setIfInBounds p v) a.tmps, defers := [] } W)
    (hbody : ∀ (l : Nat) (pre : List α) (M : Nat → Prop) (x : α) (Wy W : World), Laid x Wy W → I pre M W → Got pre x W → (∀ b, own x b → b < W.heap.size ∧ ¬ M b) → w.heap.size ≤ W.heap.size → Below n0 w W →
      body.wpIn (F.inRound l) (n - 1 - 1) P (ownPostM (fun b => M b ∨ own x b) I Ix (pre ++ [x]) W) (a₁ x Wy) W)
    (hdone : ∀ (D : Nat) (xs : List α) (M : Nat → Prop) (W : World), Done xs W → I xs M W → W.heap[D]? = some (.deferred (some [])) → w.heap.size ≤ D → ¬ M D → Below n0 w W → Q .normal { a with defers := { target := .collected D, args := #[] } :: a.defers } W)
    (hstop : ∀ (D : Nat) (c : Code) (pre : List α) (M : Nat → Prop) (W : World), Stop pre W → Ix c pre M W → W.heap[D]? = some (.deferred (some [])) → w.heap.size ≤ D → ¬ M D → Below n0 w W → c.wpIn F n P Q { a with defers := { target := .collected D, args := #[] } :: a.defers } W) :
    (Code.rangeFunc g ps assign body).wpIn F n P Q a w := by
  refine wpIn_rangeFunc ?_
  intro fn hfn
  rw [hro]
  obtain ⟨rec, hrec⟩ : ∃ rec : LoopState → Option Code → Loop, rec = fun st pe => { state := st, pending := pe, fn, tmps := a.tmps, params := ps, assign, body, defers := w.heap.size } := ⟨_, rfl⟩
  obtain ⟨W1, hW1⟩ : ∃ W1, (w.alloc (.deferred (some []))).alloc (.loop (rec .ready none)) = W1 := ⟨_, rfl⟩
  have hL1 : W1.heap[w.heap.size + 1]? = some (.loop (rec .ready none)) := by
    rw [← hW1]; have := World.alloc_heap_new (w.alloc (.deferred (some []))) (.loop (rec .ready none)); rwa [World.size_alloc] at this
  have hK1 : W1.heap[w.heap.size]? = some (.deferred (some [])) := by
    rw [← hW1]; exact (Below.heap_alloc _ _ _ (by simp)).trans (World.alloc_heap_new w _)
  have hb1 : Below w.heap.size w W1 := by
    rw [← hW1]; exact ((Below.refl _ w).alloc (Nat.le_refl _) _).alloc (by simp) _
  have hs1 : W1.heap.size = w.heap.size + 2 := by rw [← hW1]; simp
  have hI1 : I [] M0 W1 := hI _ _ _ _ h0 hb1.size (fun b hb => hb1.block b (hIl _ _ _ h0 b hb))
  refine ⟨w.heap.size + 1, [{ target := .collected w.heap.size, args := #[] }], W1, { target := .fn (.func gf) lb, args := #[.func (.yield (w.heap.size + 1)) #[] #[]] }, W1, gf,
    #[.func (.yield (w.heap.size + 1)) #[] #[]] ++ lb, W1, ?_, ?_, ?_, ?_, fun _ => h1, ?_⟩
  · rw [← hW1, hrec]; exact run_enterLoop_outer _ _ _ _ _
  · simp only [resolve, hg]
    simp [go_sem]
  · intro f' hf'; simp [Target.leads] at hf'; subst hf'; exact hFg
  · simp [invoke, go_sem, eg]
  · refine (hseq W1 hb1 hs1 (w.heap.size + 1)
      (fun pre M W => ∃ M1 : Nat → Prop, I pre M1 W ∧ (∀ b, M b ↔ M1 b ∨ b = w.heap.size ∨ b = w.heap.size + 1) ∧ ¬ M1 w.heap.size ∧ ¬ M1 (w.heap.size + 1) ∧ W.heap[w.heap.size + 1]? = some (.loop (rec .ready none)) ∧ W.heap[w.heap.size]? = some (.deferred (some [])))
      (fun pre M W => ∃ (M1 : Nat → Prop) (c : Code), Ix c pre M1 W ∧ (∀ b, M b ↔ M1 b ∨ b = w.heap.size ∨ b = w.heap.size + 1) ∧ ¬ M1 w.heap.size ∧ ¬ M1 (w.heap.size + 1) ∧ W.heap[w.heap.size + 1]? = some (.loop (rec .done (some c))) ∧ W.heap[w.heap.size]? = some (.deferred (some [])))
      ?_ ?_ ?_ ?_ ?_ ?_).mono ?_
    · rintro pre M W W' ⟨M1, hi, hm, d1, d2, hl, hk⟩ hs hb
      exact ⟨M1, hI _ _ _ _ hi hs (fun b h => hb b ((hm b).2 (.inl h))), hm, d1, d2, (hb _ ((hm _).2 (.inr (.inr rfl)))).trans hl, (hb _ ((hm _).2 (.inr (.inl rfl)))).trans hk⟩
    · rintro pre M W W' ⟨M1, c, hi, hm, d1, d2, hl, hk⟩ hs hb
      exact ⟨M1, c, hIx _ _ _ _ _ hi hs (fun b h => hb b ((hm b).2 (.inl h))), hm, d1, d2, (hb _ ((hm _).2 (.inr (.inr rfl)))).trans hl, (hb _ ((hm _).2 (.inr (.inl rfl)))).trans hk⟩
    · rintro pre M W ⟨M1, hi, hm, d1, d2, hl, hk⟩ b hb
      rcases (hm b).1 hb with h | rfl | rfl
      · exact hIl _ _ _ hi b h
      · exact (Array.getElem?_eq_some_iff.1 hk).1
      · exact (Array.getElem?_eq_some_iff.1 hl).1
    · rintro pre M W ⟨M1, c, hi, hm, d1, d2, hl, hk⟩ b hb
      rcases (hm b).1 hb with h | rfl | rfl
      · exact hIxl _ _ _ _ hi b h
      · exact (Array.getElem?_eq_some_iff.1 hk).1
      · exact (Array.getElem?_eq_some_iff.1 hl).1
    · -- ONE ROUND
      rintro pre M x W hbW ⟨M1, hi, hm, d1, d2, hl, hk⟩ hx hown
      have hlt : w.heap.size + 1 < W.heap.size := (Array.getElem?_eq_some_iff.1 hl).1
      have hy := run_yield (P := P) (args := encs x) hl (by rw [hrec]; exact hps x)
      rw [hrec] at hy
      have hba : Below W.heap.size W (wa x W) := hwa x W
      have hla : (wa x W).heap[w.heap.size + 1]? = some (.loop (rec .ready none)) := (hba.block (w.heap.size + 1) (by omega)).trans hl
      refine ⟨fn, _, assign, body, hy, roundIn_of_wpIn hfn (hassign _ x W _ ⟨_, run_beginRound hla (by rw [hrec]), ?_⟩)⟩
      have hLd := hLaid x W (.loop { rec .ready none with state := .busy }) hlt
      generalize hWy : a₁ x W = ay
      obtain ⟨Wy, hWy2⟩ : ∃ Wy, Wy = W := ⟨_, rfl⟩
      have hsW : Wy.heap.size = W.heap.size := by rw [hWy2]
      have hk0 : (wa x W).heap[w.heap.size]? = some (.deferred (some [])) := (hba.block w.heap.size (by omega)).trans hk
      have hi0 : I pre M1 (wa x W) := hI _ _ _ _ hi hba.size (fun b hb => hba.block b (hIl _ _ _ hi b hb))
      have hx0 : Got pre x (wa x W) := hGot pre x W _ hx hba.size (fun b hb => hba.block b (hown b hb).1)
      have hown0 : ∀ b, own x b → b < (wa x W).heap.size ∧ ¬ M b := fun b hb => ⟨Nat.lt_of_lt_of_le (hown b hb).1 hba.size, (hown b hb).2⟩
      have hbW0 : Below n0 W1 (wa x W) := hbW.trans (hba.mono (by omega))
      have hag : Agr (fun b => M b ∨ own x b) W (wa x W) := Agr.of_below hba
      have hsz0 := hba.size
      rw [← hWy2] at hLd hWy
      clear hba hi hx hown hbW hl hk hy
      generalize hVa : wa x Wy = Va at hLd
      have hVb : wa x W = Va := by rw [← hWy2]; exact hVa
      rw [hVb] at hla hk0 hi0 hx0 hown0 hbW0 hag hsz0
      rw [hVb]
      have hlt0 : w.heap.size + 1 < Va.heap.size := by omega
      have hLo : ¬ own x (w.heap.size + 1) := fun h => (hown0 _ h).2 ((hm _).2 (.inr (.inr rfl)))
      have hDo : ¬ own x w.heap.size := fun h => (hown0 _ h).2 ((hm _).2 (.inr (.inl rfl)))
      have hl2 : (Va.putObj (w.heap.size + 1) (.loop { rec .ready none with state := .busy })).heap[w.heap.size + 1]? = some (.loop { rec .ready none with state := .busy }) := World.putObj_heap_same hlt0
      have hk2 : (Va.putObj (w.heap.size + 1) (.loop { rec .ready none with state := .busy })).heap[w.heap.size]? = some (.deferred (some [])) := (World.putObj_heap_other (by omega)).trans hk0
      have hs2 : (Va.putObj (w.heap.size + 1) (.loop { rec .ready none with state := .busy })).heap.size = Va.heap.size := by simp
      have hoth : ∀ b, b ≠ w.heap.size + 1 → (Va.putObj (w.heap.size + 1) (.loop { rec .ready none with state := .busy })).heap[b]? = Va.heap[b]? := fun b hb => World.putObj_heap_other hb
      have hA2 : Agr (fun b => M b ∨ own x b) Va (Va.putObj (w.heap.size + 1) (.loop { rec .ready none with state := .busy })) := Agr.putObj _ _ _ _ (.inl ((hm _).2 (.inr (.inr rfl))))
      have hi2 : I pre M1 (Va.putObj (w.heap.size + 1) (.loop { rec .ready none with state := .busy })) := hI _ _ _ _ hi0 (Nat.le_of_eq hs2.symm) (fun b hb => hoth b (fun e => d2 (e ▸ hb)))
      have hx2 : Got pre x (Va.putObj (w.heap.size + 1) (.loop { rec .ready none with state := .busy })) := hGot pre x Va _ hx0 (Nat.le_of_eq hs2.symm) (fun b hb => hoth b (fun e => hLo (e ▸ hb)))
      have hbw2 : Below n0 w (Va.putObj (w.heap.size + 1) (.loop { rec .ready none with state := .busy })) := ((hb1.mono hn0).trans hbW0).grown (grownBy_putObj' _ _ _) (by omega) (fun k e => by cases e; omega)
      generalize hW2 : (Va.putObj (w.heap.size + 1) (.loop { rec .ready none with state := .busy })) = W2 at *
      clear hW2
      refine wpIn_mono (hWy ▸ hbody _ pre M1 x Wy _ hLd hi2 hx2 (fun b hb => ⟨by rw [hs2]; exact (hown0 b hb).1, fun e => (hown0 b hb).2 ((hm b).2 (.inl e))⟩) (by omega) hbw2) ?_
      have fin : ∀ (jump : Option Code) (W3 : World) (M' : Nat → Prop), (∀ b, M' b → (M1 b ∨ own x b) ∨ W2.heap.size ≤ b) → Agr (fun b => M1 b ∨ own x b) W2 W3 →
          (Instr.endRound (w.heap.size + 1) jump).run P W3 = .ok (.bool jump.isNone) (W3.putObj (w.heap.size + 1) (.loop (rec (if jump.isNone then .ready else .done) jump))) ∧
          (W3.putObj (w.heap.size + 1) (.loop (rec (if jump.isNone then .ready else .done) jump))).heap[w.heap.size + 1]? = some (.loop (rec (if jump.isNone then .ready else .done) jump)) ∧
          (W3.putObj (w.heap.size + 1) (.loop (rec (if jump.isNone then .ready else .done) jump))).heap[w.heap.size]? = some (.deferred (some [])) ∧
          ¬ M' w.heap.size ∧ ¬ M' (w.heap.size + 1) ∧
          (∀ b, M' b → (W3.putObj (w.heap.size + 1) (.loop (rec (if jump.isNone then .ready else .done) jump))).heap[b]? = W3.heap[b]?) ∧
          W3.heap.size ≤ (W3.putObj (w.heap.size + 1) (.loop (rec (if jump.isNone then .ready else .done) jump))).heap.size ∧
          (∀ b, (M' b ∨ b = w.heap.size ∨ b = w.heap.size + 1) → (M b ∨ own x b) ∨ Va.heap.size ≤ b) ∧
          Agr (fun b => M b ∨ own x b) Va (W3.putObj (w.heap.size + 1) (.loop (rec (if jump.isNone then .ready else .done) jump))) := fun jump W3 M' hM' hA => by
        have hl3 : W3.heap[w.heap.size + 1]? = some (.loop { rec .ready none with state := .busy }) := (hA.same _ (by omega) (by rintro (h | h); exact d2 h; exact hLo h)).trans hl2
        have hk3 : W3.heap[w.heap.size]? = some (.deferred (some [])) := (hA.same _ (by omega) (by rintro (h | h); exact d1 h; exact hDo h)).trans hk2
        have := run_endRound (P := P) jump hl3
        rw [hrec] at this ⊢
        have nd1 : ¬ M' w.heap.size := fun h => by
          rcases hM' _ h with (h | h) | h
          · exact d1 h
          · exact hDo h
          · omega
        have nd2 : ¬ M' (w.heap.size + 1) := fun h => by
          rcases hM' _ h with (h | h) | h
          · exact d2 h
          · exact hLo h
          · omega
        refine ⟨this, World.putObj_heap_same (Array.getElem?_eq_some_iff.1 hl3).1, (World.putObj_heap_other (by omega)).trans hk3, nd1, nd2, fun b hb => World.putObj_heap_other (fun e => nd2 (e ▸ hb)), by simp, ?_, ?_⟩
        · rintro b (h | rfl | rfl)
          · rcases hM' b h with (h | h) | h
            · exact .inl (.inl ((hm b).2 (.inl h)))
            · exact .inl (.inr h)
            · right; omega
          · exact .inl (.inl ((hm _).2 (.inr (.inl rfl))))
          · exact .inl (.inl ((hm _).2 (.inr (.inr rfl))))
        · refine (hA2.trans hA (M'' := fun b => M b ∨ own x b) (fun b _ h => h) (fun b _ h => ?_)).trans (Agr.putObj (fun b => M b ∨ own x b) W3 _ _ (.inl ((hm _).2 (.inr (.inr rfl))))) (fun b _ h => h) (fun b _ h => h)
          rcases h with h | h
          · exact .inl ((hm b).2 (.inl h))
          · exact .inr h
      rintro e a3 W3 hp
      cases e with
      | normal =>
        obtain ⟨M', hM', hA, hi3⟩ := hp
        obtain ⟨hr, hl4, hk4, n1, n2, hb4, hs4, hm4, hA4⟩ := fin none W3 M' hM' hA
        exact ⟨_, _, hr, _, (fun b hb => (hm4 b hb).imp (fun h => h) (Nat.le_trans hsz0)), (hag.trans hA4 (fun b _ h => h) (fun b _ h => h)), .inl ⟨rfl, M', hI _ _ _ _ hi3 hs4 hb4, fun _ => Iff.rfl, n1, n2, hl4, hk4⟩⟩
      | ret =>
        obtain ⟨M', hM', hA, hi3⟩ := hp
        obtain ⟨hr, hl4, hk4, n1, n2, hb4, hs4, hm4, hA4⟩ := fin (some .ret) W3 M' hM' hA
        exact ⟨_, _, hr, _, (fun b hb => (hm4 b hb).imp (fun h => h) (Nat.le_trans hsz0)), (hag.trans hA4 (fun b _ h => h) (fun b _ h => h)), .inr ⟨rfl, M', .ret, hIx _ _ _ _ _ hi3 hs4 hb4, fun _ => Iff.rfl, n1, n2, hl4, hk4⟩⟩
      | exit id =>
        obtain ⟨M', hM', hA, hi3⟩ := hp
        obtain ⟨hr, hl4, hk4, n1, n2, hb4, hs4, hm4, hA4⟩ := fin (some (.exit id)) W3 M' hM' hA
        exact ⟨_, _, hr, _, (fun b hb => (hm4 b hb).imp (fun h => h) (Nat.le_trans hsz0)), (hag.trans hA4 (fun b _ h => h) (fun b _ h => h)), .inr ⟨rfl, M', .exit id, hIx _ _ _ _ _ hi3 hs4 hb4, fun _ => Iff.rfl, n1, n2, hl4, hk4⟩⟩
      | goto t =>
        obtain ⟨M', hM', hA, hi3⟩ := hp
        obtain ⟨hr, hl4, hk4, n1, n2, hb4, hs4, hm4, hA4⟩ := fin (some (.goto t)) W3 M' hM' hA
        exact ⟨_, _, hr, _, (fun b hb => (hm4 b hb).imp (fun h => h) (Nat.le_trans hsz0)), (hag.trans hA4 (fun b _ h => h) (fun b _ h => h)), .inr ⟨rfl, M', .goto t, hIx _ _ _ _ _ hi3 hs4 hb4, fun _ => Iff.rfl, n1, n2, hl4, hk4⟩⟩
      | panic ch => exact hp.elim
      | outgrown => exact hp.elim
    · exact ⟨M0, hI1, fun _ => Iff.rfl, fun h => by have := hIl _ _ _ h0 _ h; omega, fun h => by have := hIl _ _ _ h0 _ h; omega, hL1, hK1⟩
    · -- BEHIND THE ITERATOR
      rintro e W2 ⟨⟨v, rfl⟩, hB2, M', (⟨xs, hS, M1, hi, hm, d1, d2, hl, hk⟩ | ⟨pre, hSp, M1, c, hi, hm, d1, d2, hl, hk⟩)⟩
      · refine ⟨none, _, by have := run_endLoop (P := P) hl (by rw [hrec]; simp); rw [hrec] at this; exact this, hdone _ xs M1 _ (hDone _ _ _ hS) (hI _ _ _ _ hi (by simp) (fun b hb => World.putObj_heap_other (fun e => d2 (e ▸ hb)))) ((World.putObj_heap_other (by omega)).trans hk) (Nat.le_refl _) d1 ?_⟩
        exact ((hb1.mono hn0).trans hB2).grown (grownBy_putObj' _ _ _) (by have := hB2.size; omega) (fun k e => by cases e; omega)
      · refine ⟨some c, _, by have := run_endLoop (P := P) hl (by rw [hrec]; simp); rw [hrec] at this; exact this, hstop _ c pre M1 _ (hStop _ _ _ hSp) (hIx c _ _ _ _ hi (by simp) (fun b hb => World.putObj_heap_other (fun e => d2 (e ▸ hb)))) ((World.putObj_heap_other (by omega)).trans hk) (Nat.le_refl _) d1 ?_⟩
        exact ((hb1.mono hn0).trans hB2).grown (grownBy_putObj' _ _ _) (by have := hB2.size; omega) (fun k e => by cases e; omega)
end Go.Proofs.Ytmffobadnmkpbaa
namespace Go.Proofs.Ytmffobadnmkpbaa
open Go.RowKit

set_option maxRecDepth 100000 in
theorem idxNamed_c (ao : Option Addr) (l cap : Nat) (nm : ByteArray) (n : Int) (w : World) :
    Calls Try.prog 86 #[.slice ao l cap, .string nm, .int .i64 n] w fun e w' => e = .returned (.func (.func 114) #[] #[.pointer (some ⟨w.heap.size, 0, none⟩), .pointer (some ⟨w.heap.size + 1, 0, none⟩), .pointer (some ⟨w.heap.size + 1 + 1, 0, none⟩)]) ∧
      (w'.cell? ⟨w.heap.size, 0, none⟩ = some (.slice ao l cap) ∧ w'.cell? ⟨w.heap.size + 1, 0, none⟩ = some (.string nm) ∧ w'.cell? ⟨w.heap.size + 1 + 1, 0, none⟩ = some (.int .i64 n)) ∧ Below w.heap.size w w' ∧ w'.heap.size = w.heap.size + 3 := by
  go_enter Try.func86, Try.ntmps86
  go_wp2
  go_ret
  have al : ∀ (W : World) (o : Obj) (B : Nat), B ≤ W.heap.size → Below B W (W.alloc o) := fun W o B h => (Below.refl B W).alloc h o
  have h0 : ∀ T, BoxL (w.alloc (.cells #[.slice ao l cap] T)) w.heap.size [.slice ao l cap] := fun T => BoxL.mk' w #[.slice ao l cap] T
  have h1 : ∀ T T', BoxL ((w.alloc (.cells #[.slice ao l cap] T)).alloc (.cells #[.string nm] T')) (w.heap.size + 1) [.string nm] := fun T T' => by
    have h := BoxL.mk' (w.alloc (.cells #[.slice ao l cap] T)) #[.string nm] T'
    simp only [World.size_alloc] at h; exact h
  have h2 : ∀ T T' T'', BoxL (((w.alloc (.cells #[.slice ao l cap] T)).alloc (.cells #[.string nm] T')).alloc (.cells #[.int .i64 n] T'')) (w.heap.size + 1 + 1) [.int .i64 n] := fun T T' T'' => by
    have h := BoxL.mk' ((w.alloc (.cells #[.slice ao l cap] T)).alloc (.cells #[.string nm] T')) #[.int .i64 n] T''
    simp only [World.size_alloc] at h; exact h
  exact ⟨rfl, ⟨((((h0 _).below (al _ _ (w.heap.size + 1) (by simp)) (by omega)).below (al _ _ (w.heap.size + 1) (by simp)) (by omega)).get 0 rfl).1, (((h1 _ _).below (al _ _ (w.heap.size + 2) (by simp)) (by omega)).get 0 rfl).1, ((h2 _ _ _).get 0 rfl).1⟩, (((al _ _ _ (Nat.le_refl _)).trans (al _ _ _ (by simp))).trans (al _ _ _ (by simp; omega))), by simp⟩

/-- is it a head of that name and so many arguments -/
def headOf (nm : ByteArray) (n : Int) (t : Tm) : Bool := t.named && ((t.name.toList == nm.toList) && ((t.args.length : Int) == n))
/-- the places of such heads among the first k -/
def namedTo (H : List Tm) (nm : ByteArray) (n : Int) (k : Nat) : List Nat := (List.range k).filter fun i => headOf nm n (H.getD i .nil)
theorem namedTo_step (H : List Tm) (nm : ByteArray) (n : Int) (k : Nat) (hk : k < H.length) : namedTo H nm n (k + 1) = namedTo H nm n k ++ (if headOf nm n H[k] then [k] else []) := by
  have e : H.getD k .nil = H[k] := by rw [List.getD_eq_getElem?_getD, List.getElem?_eq_getElem hk]; rfl
  unfold namedTo
  rw [List.range_succ, List.filter_append]
  congr 1
  simp only [List.filter_cons, List.filter_nil, e]
theorem namedTo_len (H : List Tm) (nm : ByteArray) (n : Int) (k : Nat) : (namedTo H nm n k).length ≤ k := by
  have h := List.length_filter_le (fun i => headOf nm n (H.getD i .nil)) (List.range k)
  rwa [List.length_range] at h
/-- what a round is handed -/
def GotH (w0 : World) (H : List Tm) (nm : ByteArray) (n : Int) (pre : List (Nat × Tm × Option Addr × Nat)) (x : Nat × Tm × Option Addr × Nat) (_ : World) : Prop := pre.map Prod.fst = namedTo H nm n x.1 ∧ H[x.1]? = some x.2.1 ∧ headOf nm n x.2.1 = true ∧ TmAt (fun _ => True) w0 x.2.1 (.slice x.2.2.1 x.2.1.args.length x.2.2.2)
def encH (x : Nat × Tm × Option Addr × Nat) : Array Value := #[.int .i64 (x.1 : Nat), .agg #[.int .i64 x.2.1.kind, .int .i64 x.2.1.num, .string x.2.1.name, .slice x.2.2.1 x.2.1.args.length x.2.2.2]]
def ownH (_ : Nat × Tm × Option Addr × Nat) (_ : Nat) : Prop := False
def DoneH (H : List Tm) (nm : ByteArray) (n : Int) (xs : List (Nat × Tm × Option Addr × Nat)) (_ : World) : Prop := xs.map Prod.fst = namedTo H nm n H.length
def StopH (_ : List (Nat × Tm × Option Addr × Nat)) (_ : World) : Prop := True
/-- what is known at the iterator's start -/
structure NamIn (w0 W : World) (bh bs bn : Nat) (vh : Value) (H : List Tm) (nm : ByteArray) (n : Int) (M0 : Nat → Prop) : Prop where
  ts : TsAt (fun _ => True) w0 vh H
  hl : H.length ≤ 4096
  b : Below w0.heap.size w0 W
  c0 : W.cell? ⟨bh, 0, none⟩ = some vh
  c1 : W.cell? ⟨bs, 0, none⟩ = some (.string nm)
  c2 : W.cell? ⟨bn, 0, none⟩ = some (.int .i64 n)
  m0 : ¬ M0 bh
  m1 : ¬ M0 bs
  m2 : ¬ M0 bn
  ml : ∀ b, M0 b → w0.heap.size ≤ b
/-- the state at the loop's head -/
structure NamW (J : List (Nat × Tm × Option Addr × Nat) → (Nat → Prop) → World → Prop) (w0 W0 : World) (bh bs bn : Nat) (vh : Value) (nm : ByteArray) (n : Int) (wr : World) (pre : List (Nat × Tm × Option Addr × Nat)) (M : Nat → Prop) : Prop where
  j : J pre M wr
  ml : ∀ b, M b → w0.heap.size ≤ b
  nl : w0.heap.size ≤ W0.heap.size
  b : Below w0.heap.size W0 wr
  c0 : wr.cell? ⟨bh, 0, none⟩ = some vh
  c1 : wr.cell? ⟨bs, 0, none⟩ = some (.string nm)
  c2 : wr.cell? ⟨bn, 0, none⟩ = some (.int .i64 n)
  m0 : ¬ M bh
  m1 : ¬ M bs
  m2 : ¬ M bn
variable {J : List (Nat × Tm × Option Addr × Nat) → (Nat → Prop) → World → Prop} {w0 W0 wr : World} {bh bs bn : Nat} {vh : Value} {nm : ByteArray} {n : Int} {pre : List (Nat × Tm × Option Addr × Nat)} {M : Nat → Prop}
theorem NamW.start {H : List Tm} (h : NamIn w0 W0 bh bs bn vh H nm n M) (hj : J [] M W0) : NamW J w0 W0 bh bs bn vh nm n W0 [] M :=
  ⟨hj, h.ml, h.b.size, Below.refl _ _, h.c0, h.c1, h.c2, h.m0, h.m1, h.m2⟩
theorem NamW.below (h : NamW J w0 W0 bh bs bn vh nm n wr pre M) (hJ : Rests J) (hl : Lies J) {W' : World} (hb : Below wr.heap.size wr W') : NamW J w0 W0 bh bs bn vh nm n W' pre M :=
  ⟨hJ _ _ _ _ h.j hb.size (fun b hm => hb.block b (hl _ _ _ h.j b hm)), h.ml, h.nl, h.b.trans (hb.mono (Nat.le_trans h.nl h.b.size)), (hb.cell (p := ⟨bh, 0, none⟩) (World.block_lt_of_cell? wr _ h.c0)).trans h.c0, (hb.cell (p := ⟨bs, 0, none⟩) (World.block_lt_of_cell? wr _ h.c1)).trans h.c1, (hb.cell (p := ⟨bn, 0, none⟩) (World.block_lt_of_cell? wr _ h.c2)).trans h.c2, h.m0, h.m1, h.m2⟩
theorem NamW.round {J2 : List (Nat × Tm × Option Addr × Nat) → (Nat → Prop) → World → Prop} (h : NamW J w0 W0 bh bs bn vh nm n wr pre M) {W' : World} {x : Nat × Tm × Option Addr × Nat} {M' : Nat → Prop} (hM : ∀ b, M' b → (M b ∨ ownH x b) ∨ wr.heap.size ≤ b) (hA : Agr (fun b => M b ∨ ownH x b) wr W') (hj : J2 (pre ++ [x]) M' W') : NamW J2 w0 W0 bh bs bn vh nm n W' (pre ++ [x]) M' := by
  have l0 := World.block_lt_of_cell? wr _ h.c0
  have l1 := World.block_lt_of_cell? wr _ h.c1
  have l2 := World.block_lt_of_cell? wr _ h.c2
  dsimp only at l0 l1 l2
  have nb : ∀ {b : Nat}, ¬ M b → b < wr.heap.size → ¬ M' b := fun hm hb hm' => by
    rcases hM _ hm' with (hh | hh) | hh
    · exact hm hh
    · exact hh
    · omega
  have sm : ∀ {b : Nat}, ¬ M b → b < wr.heap.size → W'.heap[b]? = wr.heap[b]? := fun hm hb => hA.same _ hb (by rintro (hh | hh); exact hm hh; exact hh)
  refine ⟨hj, fun b hb => ?_, h.nl, h.b.trans (hA.below (Nat.le_trans h.nl h.b.size) (fun b hb => ?_)), (World.cell?_of_block (a := ⟨bh, 0, none⟩) (sm h.m0 l0)).trans h.c0, (World.cell?_of_block (a := ⟨bs, 0, none⟩) (sm h.m1 l1)).trans h.c1, (World.cell?_of_block (a := ⟨bn, 0, none⟩) (sm h.m2 l2)).trans h.c2, nb h.m0 l0, nb h.m1 l1, nb h.m2 l2⟩
  · rcases hM b hb with (hh | hh) | hh
    · exact h.ml b hh
    · exact hh.elim
    · exact Nat.le_trans (Nat.le_trans h.nl h.b.size) hh
  · rcases hb with hh | hh
    · exact h.ml b hh
    · exact hh.elim
set_option maxRecDepth 1000000 in
set_option maxHeartbeats 6400000 in
theorem named_seq (w0 W : World) (bh bs bn : Nat) (vh : Value) (H : List Tm) (nm : ByteArray) (nn : Int) (M0 : Nat → Prop) (h : NamIn w0 W bh bs bn vh H nm nn M0) (n : Nat) :
    SeqL Fence.wide n Try.prog 114 #[.pointer (some ⟨bh, 0, none⟩), .pointer (some ⟨bs, 0, none⟩), .pointer (some ⟨bn, 0, none⟩)] encH (GotH w0 H nm nn) ownH w0.heap.size (DoneH H nm nn) StopH M0 W := by
  intro l J Jx hJ hJx hl hlx hY hj0
  refine callsIn_wide.2 ?_
  show Calls Try.prog 114 #[.func (.yield l) #[] #[], .pointer (some ⟨bh, 0, none⟩), .pointer (some ⟨bs, 0, none⟩), .pointer (some ⟨bn, 0, none⟩)] W _
  obtain ⟨ao, cap, rfl, _⟩ := h.ts.shape
  have b0 := h.c0
  have hHl := h.hl
  have H0 := Lib.hid (NamW.start h hj0)
  have HI := Lib.hid h
  have HJ := Lib.hid hJ
  have HJX := Lib.hid hJx
  have HL := Lib.hid hl
  have HY := Lib.hid hY
  clear h hJ hJx hl hlx hY hj0
  go_enter Try.func114, Try.ntmps114
  go_wp2
  go_loopg [12] H.length (fun f s wr => ∃ (k : Nat) (pre : List (Nat × Tm × Option Addr × Nat)) (M : Nat → Prop), k ≤ H.length ∧ s = .int .i64 k ∧ Hid (f = H.length - k) ∧ Hid (NamW J w0 W bh bs bn (.slice ao H.length cap) nm nn wr pre M) ∧ Hid (pre.map Prod.fst = namedTo H nm nn k))
  case atStart => exact ⟨0, [], M0, by omega, rfl, rfl, H0, rfl⟩
  case round =>
    clear H0 b0
    obtain ⟨k, pre, M, hk, rfl, HN, HA, HP⟩ := hrel
    have x1 := HA.out.c1
    have x2 := HA.out.c2
    have l1 := World.block_lt_of_cell? wr _ x1
    have l2 := World.block_lt_of_cell? wr _ x2
    dsimp only at l1 l2
    by_cases hlt : k < H.length
    · obtain ⟨b, off, a1, rfl, -, hcc, hta⟩ := (HI.out.ts).get k hlt
      obtain ⟨p1, q1, rfl, _⟩ := hta.shape
      have hb0 := hcc.lt
      have hbw : b < wr.heap.size := Nat.lt_of_lt_of_le (Nat.lt_of_lt_of_le hb0 HA.out.nl) HA.out.b.size
      have HKC : Hid (∀ W', Below w0.heap.size W W' → CellsT W' b (off + k * 4) H[k] (.slice p1 H[k].args.length q1)) := fun W' hb => hcc.block ((hb.block _ hb0).trans (HI.out.b.block _ hb0))
      have HPS := Lib.hid (namedTo_step H nm nn k hlt)
      have HG0 : Hid (H[k]? = some H[k]) := List.getElem?_eq_getElem hlt
      have HTA := Lib.hid hta
      obtain ⟨c0, c1, c2, c3⟩ := HKC.out wr HA.out.b
      clear hta hcc
      generalize H[k] = t at *
      have CNm : Hid (∀ W', Calls Try.prog 38 #[.agg #[.int .i64 t.kind, .int .i64 t.num, .string t.name, .slice p1 t.args.length q1]] W' fun e w' => e = .returned (.tuple #[.string t.name, .int .i64 t.args.length, .bool t.named]) ∧ Below W'.heap.size W' w') := fun W' => normName_c t p1 q1 W'
      generalize hr1 : t.named = r1 at *
      generalize hr2 : (t.name.toList == nm.toList) = r2 at *
      generalize hr3 : ((t.args.length : Int) == nn) = r3 at *
      have HH : Hid (headOf nm nn t = (r1 && (r2 && r3))) := by show _ = _; unfold headOf; rw [hr1, hr2, hr3]
      clear hr1
      have HL1 := Lib.hid l1
      have NA1 : Hid (∀ o W', Below (wr.alloc o).heap.size (wr.alloc o) W' → NamW J w0 W bh bs bn (.slice (some ⟨b, off, none⟩) H.length cap) nm nn W' pre M) := fun o W' hb => (HA.out.below HJ.out HL.out ((Below.refl _ _).alloc (Nat.le_refl _) o)).below HJ.out HL.out hb
      have BX1 : Hid (∀ T W', Below (wr.alloc (.cells #[.int .i64 t.kind, .int .i64 t.num, .string t.name, .slice p1 t.args.length q1] T)).heap.size (wr.alloc (.cells #[.int .i64 t.kind, .int .i64 t.num, .string t.name, .slice p1 t.args.length q1] T)) W' → BoxL W' wr.heap.size [.int .i64 t.kind, .int .i64 t.num, .string t.name, .slice p1 t.args.length q1]) := fun T W' hb => (BoxL.mk' wr #[.int .i64 t.kind, .int .i64 t.num, .string t.name, .slice p1 t.args.length q1] T).below hb (by simp)
      have hk64 : (k : Int) ≤ 4096 := by omega
      go_upto_region 4 with (first | (go_at_call 38; ((with_reducible refine (CNm.out _).mono ?_); rintro e W2 ⟨rfl, bb⟩; have NA2 := Lib.hid (NA1.out _ _ bb); have BX2 := Lib.hid (BX1.out _ _ bb); clear bb)))
      clear x1 x2 l1 l2 c0 c1 c2 c3 HL1 NA1 BX1 CNm HKC hbw
      have x1 := NA2.out.c1
      have x2 := NA2.out.c2
      have y0 := (BX2.out.get 0 rfl).1
      have y1 := (BX2.out.get 1 rfl).1
      have y2 := (BX2.out.get 2 rfl).1
      have y3 := (BX2.out.get 3 rfl).1
      cases r1 with
      | false =>
        have HPN : Hid (pre.map Prod.fst = namedTo H nm nn (k + 1)) := by show _ = _; rw [HPS.out, HH.out, HP.out]; simp
        go_wp2
        go_roundg (H.length - (k + 1))
        case measure => have := HN.out; omega
        case rel => exact ⟨k + 1, pre, M, by omega, by go_num, rfl, NA2, HPN⟩
      | true => cases r2 with
        | false =>
          have HPN : Hid (pre.map Prod.fst = namedTo H nm nn (k + 1)) := by show _ = _; rw [HPS.out, HH.out, HP.out]; simp
          go_wp2
          go_roundg (H.length - (k + 1))
          case measure => have := HN.out; omega
          case rel => exact ⟨k + 1, pre, M, by omega, by go_num, rfl, NA2, HPN⟩
        | true => cases r3 with
          | false =>
            have HPN : Hid (pre.map Prod.fst = namedTo H nm nn (k + 1)) := by show _ = _; rw [HPS.out, HH.out, HP.out]; simp
            go_wp2
            go_roundg (H.length - (k + 1))
            case measure => have := HN.out; omega
            case rel => exact ⟨k + 1, pre, M, by omega, by go_num, rfl, NA2, HPN⟩
          | true =>
            have HPN : Hid (∀ a : Option Addr × Nat, (pre ++ [(k, t, a)]).map Prod.fst = namedTo H nm nn (k + 1)) := fun a => by rw [HPS.out, HH.out, List.map_append, HP.out]; simp
            obtain ⟨fn, tmps, assign, body, hy, hR⟩ := HY.out pre M (k, t, p1, q1) W2 NA2.out.b NA2.out.j ⟨HP.out, HG0.out, HH.out, HTA.out⟩ (fun b hb => hb.elim)
            dsimp only [encH] at hy
            have HR := Lib.hid hR
            clear hR
            refine (wpIn_wide (n := n)).1 ?_
            gi_wp2
            refine ⟨fun h => (by simp [Fence.wide] at h), HR.out.mono ?_⟩
            rintro e W6 ⟨M', hM', hA, (⟨rfl, hj6⟩ | ⟨rfl, hj6⟩)⟩
            · have NA6 := Lib.hid (NA2.out.round hM' hA hj6)
              clear hM' hA hj6
              dsimp only
              gi_wp2
              go_wp2
              go_roundg (H.length - (k + 1))
              case measure => have := HN.out; omega
              case rel => exact ⟨k + 1, _, M', by omega, by go_num, rfl, NA6, HPN.out _⟩
            · have NA6 := Lib.hid (NA2.out.round hM' hA hj6)
              clear hM' hA
              have HJ6 := Lib.hid hj6
              clear hj6
              dsimp only
              gi_wp2
              go_wp2
              refine bodyPost_ret (results_none rfl _ _ _) rfl ?_
              exact ⟨⟨_, rfl⟩, NA6.out.b, M', .inr ⟨_, trivial, HJ6.out⟩⟩
    · obtain rfl : k = H.length := by omega
      have HJ1 := Lib.hid HA.out.j
      have HB1 := Lib.hid HA.out.b
      clear HA HN x1 x2
      go_wp2
      go_end0
      exact ⟨⟨_, rfl⟩, HB1.out, M, .inl ⟨pre, HP.out, HJ1.out⟩⟩
end Go.Proofs.Ytmffobadnmkpbaa
namespace Go.Proofs.Ytmffobadnmkpbaa
open Go.RowKit

/-- the key of a first argument -/
def keyK (t : Tm) : Int := if t.kind = 2 then 2 else if t.kind = 3 then 3 else if t.kind = 4 then 4 else 0
def keyN (t : Tm) : Int := if t.kind = 2 then t.num else if t.kind = 4 then t.args.length else 0
def keyS (t : Tm) : ByteArray := if t.kind = 3 then t.name else if t.kind = 4 then t.name else ByteArray.empty
theorem id_genW {P : Program} {c : Code} {Q : Exit → Act → World → Prop} {a : Act} {W' : World} (h : ∀ W9, W9 = W' → c.wp P Q a W9) : c.wp P Q a W' := h _ rfl
theorem id_gen {P : Program} {f : Func} {Q : Ending → World → Prop} {a : Act} {W' : World} (h : ∀ W9, W9 = W' → bodyPost P f Q Exit.ret a W9) : bodyPost P f Q Exit.ret a W' := h _ rfl
theorem box3c {W : World} {b : Nat} {x0 x1 x2 : Value} (h : BoxL W b [x0, x1, x2]) : (W.cell? ⟨b, 0, none⟩ = some x0 ∧ W.cell? ⟨b, 1, none⟩ = some x1 ∧ W.cell? ⟨b, 2, none⟩ = some x2) ∧ (W.frozen? ⟨b, 0, none⟩ = false ∧ W.frozen? ⟨b, 1, none⟩ = false ∧ W.frozen? ⟨b, 2, none⟩ = false) := ⟨⟨(h.get 0 rfl).1, (h.get 1 rfl).1, (h.get 2 rfl).1⟩, (h.get 0 rfl).2, (h.get 1 rfl).2, (h.get 2 rfl).2⟩
theorem box3set {W : World} {b : Nat} {x0 x1 x2 : Value} (h : BoxL W b [x0, x1, x2]) (y0 y1 y2 : Value) : BoxL (((W.setCell ⟨b, 0, none⟩ y0).setCell ⟨b, 1, none⟩ y1).setCell ⟨b, 2, none⟩ y2) b [y0, y1, y2] :=
  ((h.set 0 (by simp) y0).set 1 (by simp) y1).set 2 (by simp) y2
theorem below3s {B : Nat} {w W : World} (h : Below B w W) {c : Nat} (hc : B ≤ c) (y0 y1 y2 : Value) : Below B w (((W.setCell ⟨c, 0, none⟩ y0).setCell ⟨c, 1, none⟩ y1).setCell ⟨c, 2, none⟩ y2) :=
  ((h.setCell (p := ⟨c, 0, none⟩) hc _).setCell (p := ⟨c, 1, none⟩) hc _).setCell (p := ⟨c, 2, none⟩) hc _
theorem res3 {w V W9 : World} {x0 x1 x2 y0 y1 y2 : Value} (hx : BoxL V (w.heap.size + 1) [x0, x1, x2]) (hb : Below w.heap.size w V)
    (h9 : W9 = (((V.setCell ⟨w.heap.size + 1, 0, none⟩ y0).setCell ⟨w.heap.size + 1, 1, none⟩ y1).setCell ⟨w.heap.size + 1, 2, none⟩ y2)) : BoxL W9 (w.heap.size + 1) [y0, y1, y2] ∧ Below w.heap.size w W9 := by
  subst h9; exact ⟨box3set hx _ _ _, below3s hb (by omega) _ _ _⟩
set_option maxRecDepth 100000 in
set_option maxHeartbeats 1600000 in
theorem keyed_c (t : Tm) (ao : Option Addr) (c : Nat) (w : World) :
    Calls Try.prog 85 #[.agg #[.int .i64 t.kind, .int .i64 t.num, .string t.name, .slice ao t.args.length c]] w fun e w' => e = .returned (.agg #[.int .i64 (keyK t), .int .i64 (keyN t), .string (keyS t)]) ∧ Below w.heap.size w w' := by
  obtain ⟨V, hV⟩ : ∃ V, V = ((w.alloc (.cells #[.int .i64 t.kind, .int .i64 t.num, .string t.name, .slice ao t.args.length c] 24)).alloc (.cells #[.int .i64 0, .int .i64 0, .string ⟨#[]⟩] 94)) := ⟨_, rfl⟩
  have al : ∀ (W : World) (o : Obj) (B : Nat), B ≤ W.heap.size → Below B W (W.alloc o) := fun W o B h => (Below.refl B W).alloc h o
  have BV : Hid (Below w.heap.size w V) := by rw [hV]; exact (al _ _ _ (Nat.le_refl _)).trans (al _ _ _ (by simp))
  have XV : Hid (BoxL V w.heap.size [.int .i64 t.kind, .int .i64 t.num, .string t.name, .slice ao t.args.length c]) := by rw [hV]; exact (BoxL.mk' w #[.int .i64 t.kind, .int .i64 t.num, .string t.name, .slice ao t.args.length c] 24).below (al _ _ (w.heap.size + 1) (by simp)) (by omega)
  have ZV : Hid (BoxL V (w.heap.size + 1) [.int .i64 0, .int .i64 0, .string ⟨#[]⟩]) := by
    rw [hV]
    have h := BoxL.mk' (w.alloc (.cells #[.int .i64 t.kind, .int .i64 t.num, .string t.name, .slice ao t.args.length c] 24)) #[.int .i64 0, .int .i64 0, .string ⟨#[]⟩] 94
    simp only [World.size_alloc] at h
    exact h
  have x0 := (XV.out.get 0 rfl).1
  have x1 := (XV.out.get 1 rfl).1
  have x2 := (XV.out.get 2 rfl).1
  have x3 := (XV.out.get 3 rfl).1
  obtain ⟨⟨z0, z1, z2⟩, f0, f1, f2⟩ := box3c ZV.out
  clear al
  by_cases h2 : t.kind = 2
  · have e1 : keyK t = 2 := by simp [keyK, h2]
    have e2 : keyN t = t.num := by simp [keyN, h2]
    have e3 : keyS t = ByteArray.empty := by simp [keyS, h2]
    rw [e1, e2, e3]
    rw [h2] at hV x0 ⊢
    clear h2 e1 e2 e3
    go_enter Try.func85, Try.ntmps85
    go_upto_region 1 with (fail)
    rw [← hV]
    clear hV
    go_wp2
    refine id_gen fun W9 hW9 => ?_
    have hr := res3 ZV.out BV.out hW9
    clear z0 z1 z2 f0 f1 f2 hW9
    obtain ⟨⟨z0, z1, z2⟩, -⟩ := box3c hr.1
    refine bodyPost_ret (v := .agg #[.int .i64 2, .int .i64 t.num, .string ByteArray.empty]) (by simp [results, Try.results85, go_sem, z0, z1, z2]; try rfl) rfl ?_
    exact ⟨rfl, hr.2⟩
  by_cases h3 : t.kind = 3
  · have e1 : keyK t = 3 := by simp [keyK, h3]
    have e2 : keyN t = 0 := by simp [keyN, h3]
    have e3 : keyS t = t.name := by simp [keyS, h3]
    rw [e1, e2, e3]
    rw [h3] at hV x0 ⊢
    clear h2 h3 e1 e2 e3
    go_enter Try.func85, Try.ntmps85
    go_upto_region 1 with (fail)
    rw [← hV]
    clear hV
    go_wp2
    refine id_gen fun W9 hW9 => ?_
    have hr := res3 ZV.out BV.out hW9
    clear z0 z1 z2 f0 f1 f2 hW9
    obtain ⟨⟨z0, z1, z2⟩, -⟩ := box3c hr.1
    refine bodyPost_ret (v := .agg #[.int .i64 3, .int .i64 0, .string t.name]) (by simp [results, Try.results85, go_sem, z0, z1, z2]; try rfl) rfl ?_
    exact ⟨rfl, hr.2⟩
  by_cases h4 : t.kind = 4
  · have e1 : keyK t = 4 := by simp [keyK, h4]
    have e2 : keyN t = t.args.length := by simp [keyN, h4]
    have e3 : keyS t = t.name := by simp [keyS, h4]
    rw [e1, e2, e3]
    rw [h4] at hV x0 ⊢
    clear h2 h3 h4 e1 e2 e3
    go_enter Try.func85, Try.ntmps85
    go_upto_region 1 with (fail)
    rw [← hV]
    clear hV
    go_wp2
    refine id_gen fun W9 hW9 => ?_
    have hr := res3 ZV.out BV.out hW9
    clear z0 z1 z2 f0 f1 f2 hW9
    obtain ⟨⟨z0, z1, z2⟩, -⟩ := box3c hr.1
    refine bodyPost_ret (v := .agg #[.int .i64 4, .int .i64 t.args.length, .string t.name]) (by simp [results, Try.results85, go_sem, z0, z1, z2]; try rfl) rfl ?_
    exact ⟨rfl, hr.2⟩
  · have e1 : keyK t = 0 := by simp [keyK, h2, h3, h4]
    have e2 : keyN t = 0 := by simp [keyN, h2, h4]
    have e3 : keyS t = ByteArray.empty := by simp [keyS, h3, h4]
    rw [e1, e2, e3]
    have b2 : (t.kind == 2) = false := by simpa using h2
    have b3 : (t.kind == 3) = false := by simpa using h3
    have b4 : (t.kind == 4) = false := by simpa using h4
    clear h2 h3 h4 e1 e2 e3
    go_enter Try.func85, Try.ntmps85
    go_upto_region 1 with (fail)
    rw [← hV]
    clear hV
    go_wp2
    refine id_gen fun W9 hW9 => ?_
    have hr := res3 ZV.out BV.out hW9
    clear z0 z1 z2 f0 f1 f2 hW9
    obtain ⟨⟨z0, z1, z2⟩, -⟩ := box3c hr.1
    refine bodyPost_ret (v := .agg #[.int .i64 0, .int .i64 0, .string ByteArray.empty]) (by simp [results, Try.results85, go_sem, z0, z1, z2]; try rfl) rfl ?_
    exact ⟨rfl, hr.2⟩
end Go.Proofs.Ytmffobadnmkpbaa
namespace Go.Proofs.Ytmffobadnmkpbaa
open Go.RowKit

set_option maxRecDepth 100000 in
theorem neqKey (a b a' b' : Int) (s s' : ByteArray) (w : World) : (binOp .neq 94 (.agg #[.int .i64 a, .int .i64 b, .string s]) (.agg #[.int .i64 a', .int .i64 b', .string s'])).run Try.prog w = .ok (.bool (!((a == a') && (b == b') && (s.toList == s'.toList)))) w := by
  have u3 := Try.underlying3
  have a3 := Try.isAgg3
  have z3 := Try.sizeOf3
  have u9 := Try.underlying9
  have a9 := Try.isAgg9
  have z9 := Try.sizeOf9
  have hS : Try.prog.underlying 94 = some (.struct (Try.prog.fieldsOf 94)) := by kernel_rfl
  have hp : Try.prog.stoodInHeld 94 = false := by kernel_rfl
  rw [run_neq_struct, show (10000 : Nat) = 9999 + 1 from rfl, run_equalIn_agg w 9999 94 _ _ hS hp]
  simp only [Program.fieldsOf, Try.underlying94]
  go_simp
  by_cases h1 : a = a' <;> by_cases h2 : b = b' <;> by_cases h3 : s.toList = s'.toList <;> simp [h1, h2, h3]
theorem guardKey (o : BinOp) (a b : Operand) (xs ys : Array Value) (w : World) : (eqGuard o 94 a b (.agg xs) (.agg ys)).run Try.prog w = .ok () w := run_eqGuard_agg w o 94 a b xs ys (by kernel_rfl)

/-- do two first arguments clash -/
def clashT (a b : Tm) : Bool := decide (a.kind ≠ 1) && (decide (b.kind ≠ 1) && !((keyK a == keyK b) && (keyN a == keyN b) && ((keyS a).toList == (keyS b).toList)))
theorem keyK_zero {t : Tm} (h : t.ok) : keyK t = 0 ↔ t.kind = 1 := by
  cases h <;> simp [keyK, Tm.kind]
theorem key_empty {t : Tm} (_h : t.ok) (hk : t.kind = 1) : keyN t = 0 ∧ keyS t = ByteArray.empty := by
  simp [keyN, keyS, hk]
def nzK (t : Tm) : Bool := !((keyK t == 0) && (keyN t == 0) && ((keyS t).toList == ByteArray.empty.toList))
theorem nzK_eq {t : Tm} (h : t.ok) : nzK t = decide (t.kind ≠ 1) := by
  unfold nzK
  by_cases hk : t.kind = 1
  · obtain ⟨e1, e2⟩ := key_empty h hk
    rw [e1, e2, (keyK_zero h).2 hk]
    simp [hk]
  · have : keyK t ≠ 0 := fun e => hk ((keyK_zero h).1 e)
    simp [this, hk]
theorem box_keys (w : World) (a0 a1 a2 a3 b0 b1 b2 b3 : Value) (W' : World) (h : Below (w.heap.size + 2) ((w.alloc (.cells #[a0, a1, a2, a3] 24)).alloc (.cells #[b0, b1, b2, b3] 24)) W') :
    (W'.cell? ⟨w.heap.size, 0, none⟩ = some a0 ∧ W'.cell? ⟨w.heap.size, 1, none⟩ = some a1 ∧ W'.cell? ⟨w.heap.size, 2, none⟩ = some a2 ∧ W'.cell? ⟨w.heap.size, 3, none⟩ = some a3) ∧ (W'.cell? ⟨w.heap.size + 1, 0, none⟩ = some b0 ∧ W'.cell? ⟨w.heap.size + 1, 1, none⟩ = some b1 ∧ W'.cell? ⟨w.heap.size + 1, 2, none⟩ = some b2 ∧ W'.cell? ⟨w.heap.size + 1, 3, none⟩ = some b3) := by
  have h0 : BoxL W' w.heap.size [a0, a1, a2, a3] := ((BoxL.mk' w #[a0, a1, a2, a3] 24).below ((Below.refl _ _).alloc (Nat.le_refl _) _) (by simp)).block (h.block _ (by omega))
  have h1 : BoxL W' (w.heap.size + 1) [b0, b1, b2, b3] := by
    have e := BoxL.mk' (w.alloc (.cells #[a0, a1, a2, a3] 24)) #[b0, b1, b2, b3] 24
    rw [show (w.alloc (.cells #[a0, a1, a2, a3] 24)).heap.size = w.heap.size + 1 by simp] at e
    exact e.block (h.block _ (by omega))
  exact ⟨⟨(h0.get 0 rfl).1, (h0.get 1 rfl).1, (h0.get 2 rfl).1, (h0.get 3 rfl).1⟩, (h1.get 0 rfl).1, (h1.get 1 rfl).1, (h1.get 2 rfl).1, (h1.get 3 rfl).1⟩
theorem below_2a (w : World) (o o2 : Obj) : Below w.heap.size w ((w.alloc o).alloc o2) := ((Below.refl _ _).alloc (Nat.le_refl _) o).alloc (by simp) o2

set_option maxRecDepth 100000 in
set_option maxHeartbeats 3200000 in
theorem refClash_c (a b : Tm) (ao bo : Option Addr) (ac bc : Nat) (w : World) (ha : a.ok) (hb : b.ok) :
    Calls Try.prog 88 #[.agg #[.int .i64 a.kind, .int .i64 a.num, .string a.name, .slice ao a.args.length ac], .agg #[.int .i64 b.kind, .int .i64 b.num, .string b.name, .slice bo b.args.length bc]] w fun e w' => e = .returned (.bool (clashT a b)) ∧ Below w.heap.size w w' := by
  have HZ := Lib.hid (below_2a w)
  obtain ⟨R, hR⟩ : ∃ R, R = clashT a b := ⟨_, rfl⟩
  rw [← hR]
  have HR := Lib.hid hR
  clear hR
  cases ha with
  | var _ =>
    generalize b.kind = bk
    generalize b.num = bn
    generalize b.name = bs
    generalize b.args.length = bl
    clear hb
    simp only [Tm.kind, Tm.num, Tm.name, Tm.args, List.length_nil]
    go_enter Try.func88, Try.ntmps88
    go_wp2
    go_ret
    exact ⟨ret_bool (by rw [HR.out]; simp [clashT, Tm.kind]), HZ.out _ _⟩
  | @int z _ _ => cases hb with
    | @int z' _ _ =>
      have hq : R = !(z == z') := by rw [HR.out]; simp [clashT, keyK, keyN, keyS, Tm.kind, Tm.num]
      simp only [Tm.kind, Tm.num, Tm.name, Tm.args, List.length_nil]
      generalize hr : (z == z') = r at hq
      subst hq
      cases r
      all_goals
        have hr2 : (z != z') = _ := congrArg not hr
        clear HR
        go_enter Try.func88, Try.ntmps88
        go_wp2
        go_ret
        exact ⟨rfl, HZ.out _ _⟩
    | _ =>
      simp only [Tm.kind, Tm.num, Tm.name, Tm.args, List.length_nil]
      go_enter Try.func88, Try.ntmps88
      go_wp2
      go_ret
      exact ⟨ret_bool (by rw [HR.out]; simp [clashT, keyK, Tm.kind]), HZ.out _ _⟩
  | @atom s _ => cases hb with
    | @atom s' _ =>
      have hq : R = !(s.toList == s'.toList) := by rw [HR.out]; simp [clashT, keyK, keyN, keyS, Tm.kind, Tm.name]
      simp only [Tm.kind, Tm.num, Tm.name, Tm.args, List.length_nil]
      generalize hr : (s.toList == s'.toList) = r at hq
      subst hq
      clear HR
      cases r
      all_goals
        go_enter Try.func88, Try.ntmps88
        go_wp2
        go_ret
        exact ⟨rfl, HZ.out _ _⟩
    | _ =>
      simp only [Tm.kind, Tm.num, Tm.name, Tm.args, List.length_nil]
      go_enter Try.func88, Try.ntmps88
      go_wp2
      go_ret
      exact ⟨ret_bool (by rw [HR.out]; simp [clashT, keyK, Tm.kind]), HZ.out _ _⟩
  | @cmp s l _ _ _ => cases hb with
    | @cmp s' l' _ _ _ =>
      have hq : R = !(((l.length : Int) == (l'.length : Int)) && (s.toList == s'.toList)) := by rw [HR.out]; simp [clashT, keyK, keyN, keyS, Tm.kind, Tm.name, Tm.args]
      simp only [Tm.kind, Tm.num, Tm.name, Tm.args]
      generalize l.length = n at *
      generalize l'.length = n' at *
      generalize hr : (s.toList == s'.toList) = r at hq
      generalize hr2 : ((n : Int) == (n' : Int)) = r2 at hq
      subst hq
      clear HR
      cases r <;> cases r2
      all_goals
        have hr3 : ((n : Int) != (n' : Int)) = _ := congrArg not hr2
        go_enter Try.func88, Try.ntmps88
        go_wp2
        go_ret
        exact ⟨rfl, HZ.out _ _⟩
    | _ =>
      simp only [Tm.kind, Tm.num, Tm.name, Tm.args, List.length_nil]
      go_enter Try.func88, Try.ntmps88
      go_wp2
      go_ret
      exact ⟨ret_bool (by rw [HR.out]; simp [clashT, keyK, Tm.kind]), HZ.out _ _⟩
end Go.Proofs.Ytmffobadnmkpbaa
