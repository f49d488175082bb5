/-
  norm.Goals: its second closure, walked.
  norm.Goals, walked.
  coneyref10.Goals and coneylaw10.one, walked.
-/
import Derived.Test.YtmffobadnmkpbaaKnorm2
import Derived.Deep.RegionHeldLaw
import Derived.Test.YtmffobadnmkpbaaKpars6
import Derived.Deep.RegionHeld3
import Derived.Laws.EntriesVeiled
import Derived.Test.YtmffobadnmkpbaaKtmn2
namespace Go.Proofs.Ytmffobadnmkpbaa
open Go.RowKit

theorem own_last4 {w : World} {base : Nat} {e : TypeId} {g n cap : Nat} {xs : List Value} {a b c d : Value} (h : w.ownsRow base e 4 (.slice (some ⟨g, 0, none⟩) (n + 1) cap) (n + 1) (xs ++ [a, b, c, d])) :
    (w.cell? ⟨g, n * 4, none⟩ = some a ∧ w.cell? ⟨g, n * 4 + 1, none⟩ = some b ∧ w.cell? ⟨g, n * 4 + 2, none⟩ = some c ∧ w.cell? ⟨g, n * 4 + 3, none⟩ = some d) ∧ ∀ k, w.frozen? ⟨g, k, none⟩ = false := by
  have hl := h.1
  simp only [List.length_append, List.length_cons, List.length_nil] at hl
  have hx : xs.length = n * 4 := by omega
  have hc := fun j hj => h.cellAt j hj
  refine ⟨⟨?_, ?_, ?_, ?_⟩, fun k => ?_⟩
  · have := hc (n * 4) (by omega); rw [this, List.getElem?_append_right (by omega), hx]; simp
  · have := hc (n * 4 + 1) (by omega); rw [this, List.getElem?_append_right (by omega), hx]; simp
  · have := hc (n * 4 + 2) (by omega); rw [this, List.getElem?_append_right (by omega), hx]; simp
  · have := hc (n * 4 + 3) (by omega); rw [this, List.getElem?_append_right (by omega), hx]; simp
  · rcases h.2 with ⟨he, _⟩ | ⟨g', cap', cur, he, hg, hgg, _⟩
    · cases he
    · simp only [Value.slice.injEq, Option.some.injEq, Addr.mk.injEq, and_true] at he
      obtain ⟨rfl, _, rfl⟩ := he
      simp [World.frozen?, hgg]
theorem own_stored4 {w : World} {base : Nat} {e : TypeId} {g n cap : Nat} {xs : List Value} {a b c d : Value} (h : w.ownsRow base e 4 (.slice (some ⟨g, 0, none⟩) (n + 1) cap) (n + 1) (xs ++ [a, b, c, d])) (a' b' c' d' : Value) :
    ((((w.setCell ⟨g, n * 4, none⟩ a').setCell ⟨g, n * 4 + 1, none⟩ b').setCell ⟨g, n * 4 + 2, none⟩ c').setCell ⟨g, n * 4 + 3, none⟩ d').ownsRow base e 4 (.slice (some ⟨g, 0, none⟩) (n + 1) cap) (n + 1) (xs ++ [a', b', c', d']) := by
  have hl := h.1
  simp only [List.length_append, List.length_cons, List.length_nil] at hl
  have hx : xs.length = n * 4 := by omega
  have h4 := own_store (own_store (own_store (own_store h (n * 4) (by omega) a') (n * 4 + 1) (by omega) b') (n * 4 + 2) (by omega) c') (n * 4 + 3) (by omega) d'
  have e4 : ((((xs ++ [a, b, c, d]).set (n * 4) a').set (n * 4 + 1) b').set (n * 4 + 2) c').set (n * 4 + 3) d' = xs ++ [a', b', c', d'] := by
    rw [← hx]
    simp
  rw [e4] at h4
  exact h4
theorem set4_size (W : World) (g i : Nat) (a b c d : Value) : ((((W.setCell ⟨g, i, none⟩ a).setCell ⟨g, i + 1, none⟩ b).setCell ⟨g, i + 2, none⟩ c).setCell ⟨g, i + 3, none⟩ d).heap.size = W.heap.size := by simp
theorem set4_heap (W : World) (g i : Nat) (a b c d : Value) {k : Nat} (hk : k ≠ g) : ((((W.setCell ⟨g, i, none⟩ a).setCell ⟨g, i + 1, none⟩ b).setCell ⟨g, i + 2, none⟩ c).setCell ⟨g, i + 3, none⟩ d).heap[k]? = W.heap[k]? := by
  rw [Below.heap_setCell _ _ _ _ hk, Below.heap_setCell _ _ _ _ hk, Below.heap_setCell _ _ _ _ hk, Below.heap_setCell _ _ _ _ hk]
theorem set4_below {B : Nat} {W0 W : World} (h : Below B W0 W) {g i : Nat} (hg : B ≤ g) (a b c d : Value) : Below B W0 ((((W.setCell ⟨g, i, none⟩ a).setCell ⟨g, i + 1, none⟩ b).setCell ⟨g, i + 2, none⟩ c).setCell ⟨g, i + 3, none⟩ d) :=
  (((h.setCell (p := ⟨g, i, none⟩) hg _).setCell (p := ⟨g, i + 1, none⟩) hg _).setCell (p := ⟨g, i + 2, none⟩) hg _).setCell (p := ⟨g, i + 3, none⟩) hg _
theorem setCell_comm' (w : World) (a c : Addr) (u v : Value) (h : a.block ≠ c.block) : (w.setCell a u).setCell c v = (w.setCell c v).setCell a u := by
  unfold World.setCell
  congr 1
  apply Array.ext_getElem?
  intro i
  simp only [Array.getElem?_modify]
  by_cases h1 : c.block = i
  · have h2 : ¬ a.block = i := fun e => h (e.trans h1.symm)
    simp [h1, h2]
  · simp [h1]
theorem set4_comm (w : World) (b g i : Nat) (u x0 x1 x2 x3 : Value) (h : b ≠ g) :
    (((((w.setCell ⟨b, 0, none⟩ u).setCell ⟨g, i, none⟩ x0).setCell ⟨g, i + 1, none⟩ x1).setCell ⟨g, i + 2, none⟩ x2).setCell ⟨g, i + 3, none⟩ x3) =
    (((((w.setCell ⟨g, i, none⟩ x0).setCell ⟨g, i + 1, none⟩ x1).setCell ⟨g, i + 2, none⟩ x2).setCell ⟨g, i + 3, none⟩ x3).setCell ⟨b, 0, none⟩ u) := by
  rw [setCell_comm' _ ⟨b, 0, none⟩ ⟨g, i, none⟩ _ _ h, setCell_comm' _ ⟨b, 0, none⟩ ⟨g, i + 1, none⟩ _ _ h, setCell_comm' _ ⟨b, 0, none⟩ ⟨g, i + 2, none⟩ _ _ h, setCell_comm' _ ⟨b, 0, none⟩ ⟨g, i + 3, none⟩ _ _ h]
/-- what stays, and where the list lies -/
def Kp (h : Nat) (w w' : World) (v v' : Value) : Prop := (∀ k, k < w.heap.size → k ≠ h + 1 → v.ownBlock ≠ some k → w'.heap[k]? = w.heap[k]?) ∧ (∀ g, v'.ownBlock = some g → v.ownBlock = some g ∨ w.heap.size ≤ g) ∧ w.heap.size ≤ w'.heap.size
theorem Kp.trans {h : Nat} {w w' w'' : World} {v v' v'' : Value} (h1 : Kp h w w' v v') (h2 : Kp h w' w'' v' v'') : Kp h w w'' v v'' :=
  ⟨fun k a b c => (h2.1 k (Nat.lt_of_lt_of_le a h1.2.2) b (fun e => by rcases h1.2.1 k e with e' | e'; (· exact c e'); (· omega))).trans (h1.1 k a b c), fun g e => by
    rcases h2.2.1 g e with e' | e'
    · exact h1.2.1 g e'
    · exact .inr (Nat.le_trans h1.2.2 e'), Nat.le_trans h1.2.2 h2.2.2⟩
theorem Kp.below {h : Nat} {w w' : World} (v : Value) (hb : Below w.heap.size w w') : Kp h w w' v v := ⟨fun k a _ _ => hb.block k a, fun _ e => .inl e, hb.size⟩
/-- behind the append of an empty element: what the stores find, and what they leave -/
structure Pushed (h : Nat) (w0 W w1 : World) (b : Bool) (v : Value) (L : List (Tm × Value)) (g cap : Nat) : Prop where
  c0 : w1.cell? ⟨g, L.length * 4, none⟩ = some (.int .i64 0)
  c1 : w1.cell? ⟨g, L.length * 4 + 1, none⟩ = some (.int .i64 0)
  c2 : w1.cell? ⟨g, L.length * 4 + 2, none⟩ = some (.string ⟨#[]⟩)
  c3 : w1.cell? ⟨g, L.length * 4 + 3, none⟩ = some (.slice none 0 0)
  fr : ∀ k, w1.frozen? ⟨g, k, none⟩ = false
  box : Box1 w1 (h + 1) v
  hg : h + 5 ≤ g
  ix : (L.length : Int) < (L.length : Int) + 1
  done : ∀ (t : Tm) (a : Value), TmAt (fun b => (.slice (some ⟨g, 0, none⟩) (L.length + 1) cap : Value).ownBlock ≠ some b ∧ (b < h ∨ h + 5 ≤ b)) w1 t a → GB h w0 (((((w1.setCell ⟨g, L.length * 4, none⟩ (.int .i64 t.kind)).setCell ⟨g, L.length * 4 + 1, none⟩ (.int .i64 t.num)).setCell ⟨g, L.length * 4 + 2, none⟩ (.string t.name)).setCell ⟨g, L.length * 4 + 3, none⟩ a).setCell ⟨h + 1, 0, none⟩ (.slice (some ⟨g, 0, none⟩) (L.length + 1) cap)) b (.slice (some ⟨g, 0, none⟩) (L.length + 1) cap) (L ++ [(t, a)]) ∧ Kp h W (((((w1.setCell ⟨g, L.length * 4, none⟩ (.int .i64 t.kind)).setCell ⟨g, L.length * 4 + 1, none⟩ (.int .i64 t.num)).setCell ⟨g, L.length * 4 + 2, none⟩ (.string t.name)).setCell ⟨g, L.length * 4 + 3, none⟩ a).setCell ⟨h + 1, 0, none⟩ (.slice (some ⟨g, 0, none⟩) (L.length + 1) cap)) v (.slice (some ⟨g, 0, none⟩) (L.length + 1) cap)
theorem GB.pushed {h : Nat} {w0 W w1 : World} {b : Bool} {v : Value} {L : List (Tm × Value)} (G : GB h w0 W b v L) {g cap : Nat} (ow : w1.ownsRow (h + 5) 24 4 (.slice (some ⟨g, 0, none⟩) (L.length + 1) cap) (L.length + 1) (tmCs L ++ (#[.int .i64 0, .int .i64 0, .string ⟨#[]⟩, .slice none 0 0] : Array Value).toList)) (bw : Below (h + 5) W w1) (kw : KeepsBut W w1 v) (aw : v.ownBlock = some g ∨ W.heap.size ≤ g) : Pushed h w0 W w1 b v L g cap := by
  obtain ⟨⟨z0, z1, z2, z3⟩, zf⟩ := own_last4 ow
  have hg := (ow.lt g rfl).1
  refine ⟨z0, z1, z2, z3, zf, G.obox.kept kw (own_ne G.own.own (by omega)), hg, by omega, fun t a ht => ⟨?_, fun k h1 h2 h3 => ?_, lies_at aw, by have := bw.size; simpa using this⟩⟩
  rotate_left
  · rw [Below.heap_setCell _ _ _ _ (by simpa using h2), set4_heap _ _ _ _ _ _ _ (fun e => by subst e; rcases aw with e' | e'; (· exact h3 e'); (· omega))]
    exact kw k h1 h3
  refine G.app (w6 := ((((w1.setCell ⟨g, L.length * 4, none⟩ (.int .i64 t.kind)).setCell ⟨g, L.length * 4 + 1, none⟩ (.int .i64 t.num)).setCell ⟨g, L.length * 4 + 2, none⟩ (.string t.name)).setCell ⟨g, L.length * 4 + 3, none⟩ a)) ⟨?_, fun x hx => ?_⟩ (set4_below bw hg _ _ _ _)
  · rw [tmCs_snoc]
    have := own_stored4 ow (.int .i64 t.kind) (.int .i64 t.num) (.string t.name) a
    simpa using this
  · have h1 : ∀ (A B C D : Value) {t : Tm} {a : Value}, TmAt (fun b => (.slice (some ⟨g, 0, none⟩) (L.length + 1) cap : Value).ownBlock ≠ some b ∧ (b < h ∨ h + 5 ≤ b)) w1 t a → TmAt (fun b => (.slice (some ⟨g, 0, none⟩) (L.length + 1) cap : Value).ownBlock ≠ some b ∧ (b < h ∨ h + 5 ≤ b)) ((((w1.setCell ⟨g, L.length * 4, none⟩ A).setCell ⟨g, L.length * 4 + 1, none⟩ B).setCell ⟨g, L.length * 4 + 2, none⟩ C).setCell ⟨g, L.length * 4 + 3, none⟩ D) t a := fun _ _ _ _ _ _ h1 => h1.mono fun k _ hk => ⟨hk, set4_heap _ _ _ _ _ _ _ (by have := hk.1; simp [Value.ownBlock] at this; omega)⟩
    rcases List.mem_append.1 hx with hx | hx
    · exact h1 _ _ _ _ ((G.own.tms x hx).keptBut kw (lies_at aw))
    · simp only [List.mem_singleton] at hx; subst hx; exact h1 _ _ _ _ ht
theorem callAt {q : Nat → Prop} {W : World} {nb : Nat} {t : Tm} {a : Value} (hc : CellsT W nb 0 t a) (ht : TmAt q W t a) (hq : q nb) : TmAt q W (callOf t) (.slice (some ⟨nb, 0, none⟩) 1 1) :=
  .node (av0 := fun _ => a) (by simp) (by simp) (by simp [maxLen]) hq (fun i hi => by
    have h0 : i = 0 := by simp at hi; exact hi
    subst h0; exact hc) (fun i hi => by
    have h0 : i = 0 := by simp at hi; exact hi
    subst h0; exact ht)
theorem cellsT_new (W : World) (t : Tm) (a : Value) (T : TypeId) : CellsT (W.alloc (.cells #[.int .i64 t.kind, .int .i64 t.num, .string t.name, a] T)) W.heap.size 0 t a := ⟨by simp, by simp, by simp, by simp⟩
theorem news_2a (w : World) (o : Obj) (cs : Array Value) (T : TypeId) : ∀ j u, cs.toList[j]? = some u → ((w.alloc o).alloc (.cells cs T)).drew.cell? ⟨w.heap.size + 1, j, none⟩ = some u := fun j u hj => by
  have h := news_drew (w.alloc o) cs T j u hj
  simpa using h
theorem news_2b (w : World) (o : Obj) (cs : Array Value) (T : TypeId) : ∀ j u, cs.toList[j]? = some u → ((w.alloc (.cells cs T)).alloc o).drew.cell? ⟨w.heap.size, j, none⟩ = some u := fun j u hj => by
  have h := news_drew w cs T j u hj
  refine Eq.trans ?_ h
  show ((w.alloc (.cells cs T)).alloc o).cell? _ = (w.alloc (.cells cs T)).cell? _
  exact World.cell?_alloc_lt _ _ _ (by simp)
theorem var_name {t : Tm} (h : t.kind = 1) (l : List UInt8) (hl : l ≠ []) : (t.name.toList == l) = false := by
  cases t <;> simp [Tm.kind] at h
  simp only [Tm.name, ByteArray.toList_eq]
  cases l
  · exact absurd rfl hl
  · rfl
theorem names_self {s1 n2 s3 n0 : Bool} (h1 : (s1 && n2) = false) (h2 : (s3 && n0) = false) : (s1 = true ∧ n2 = false ∧ s3 = false) ∨ (s1 = false ∧ s3 = true ∧ n0 = false) ∨ (s1 = false ∧ s3 = false) ∨ (s1 = true ∧ s3 = true ∧ n2 = false ∧ n0 = false) := by
  cases s1 <;> cases n2 <;> cases s3 <;> cases n0 <;> simp_all
def GathC (h : Nat) (w0 : World) (t : Tm) : Prop := ∀ (va : Value) (wr : World) (b : Bool) (v : Value) (L : List (Tm × Value)), GB h w0 wr b v L → TmAt (fun b => b < h) w0 t va → t.ok → L.length + t.size ≤ 1000000 →
  Calls Try.prog 81 #[tmV t va, .pointer (some ⟨h + 4, 0, none⟩), .pointer (some ⟨h + 1, 0, none⟩)] wr fun e w' => e = .returned (.tuple #[]) ∧ ∃ v' X, GB h w0 w' b v' (L ++ X) ∧ X.map Prod.fst = t.gather ∧ Kp h wr w' v v'

set_option maxRecDepth 100000 in
set_option maxHeartbeats 3200000 in
theorem gath_leaf (h : Nat) (w0 : World) (t : Tm) (va : Value) (wq : World) (b : Bool) (v : Value) (L : List (Tm × Value)) (hB : GB h w0 wq b v L) (ht : TmAt (fun b => b < h) w0 t va) (hok : t.ok) (hsz : L.length + t.size ≤ 1000000) (h1 : t.is [44] 2 = false) :
    Calls Try.prog 81 #[tmV t va, .pointer (some ⟨h + 4, 0, none⟩), .pointer (some ⟨h + 1, 0, none⟩)] wq fun e w' => e = .returned (.tuple #[]) ∧ ∃ v' X, GB h w0 w' b v' (L ++ X) ∧ X.map Prod.fst = t.gather ∧ Kp h wq w' v v' := by
  obtain ⟨ao, cc, rfl, hc1, hc2⟩ := ht.shape
  obtain ⟨i0, hi, hz0, hz1, hz2⟩ := info_parts Try.infoTerm
  have HT := Lib.hid ht
  have HB := Lib.hid hB
  have CN := Lib.hid (fun W => normName_c t ao cc W)
  have HB0 := Lib.hid (hB.below (below_one wq (.cells #[.int .i64 t.kind, .int .i64 t.num, .string t.name, .slice ao t.args.length cc] 24)))
  have HX0 := Lib.hid (BoxL.mk' wq #[.int .i64 t.kind, .int .i64 t.num, .string t.name, .slice ao t.args.length cc] 24)
  have hsq := hB.size
  have hLl : L.length < 1000000 := by have := t.size_pos; omega
  have hcm : ((t.name.toList == [44]) && ((t.args.length : Int) == 2)) = false := by
    have e : ((t.args.length : Int) == 2) = decide (t.args.length = 2) := by apply Bool.eq_iff_iff.2; simp; omega
    rw [e]; exact h1
  cases h2 : t.is [116, 114, 117, 101] 0 with
  | true =>
    have HG : Hid (t.gather = []) := Tm.gather_true h1 h2 hok
    rw [HG.out]
    have h2' := h2
    simp only [Tm.is, Bool.and_eq_true] at h2'
    obtain ⟨d2, d3'⟩ := h2'
    have d3 : ((t.args.length : Int) == 0) = true := by have := of_decide_eq_true d3'; simp [this]
    have d1 : (t.name.toList == [44]) = false := by
      have e : t.name.toList = [116, 114, 117, 101] := by simpa using d2
      rw [e]; rfl
    unfold tmV
    clear ht hB hok hsz h1 h2 HG hc1 hc2 hcm d3'
    go_enter Try.func81, Try.ntmps81
    go_wp2_with (first | (go_at_call 38; ((with_reducible refine (CN.out _).mono ?_); rintro e W2 ⟨rfl, bb⟩; have P2 := Lib.hid ((below_one wq (.cells #[.int .i64 t.kind, .int .i64 t.num, .string t.name, .slice ao t.args.length cc] 24)).trans (bb.mono (by simp))); have G2 := Lib.hid (HB0.out.below bb); have X2 := Lib.hid (HX0.out.block (bb.block _ (HX0.out.lt (by simp)))); obtain ⟨x0, x1, x2, x3⟩ := kk4' X2.out; clear bb)))
    go_end0
    exact ⟨rfl, _, [], by rw [List.append_nil]; exact G2.out, rfl, Kp.below _ P2.out⟩
  | false =>
    have htr : ((t.name.toList == [116, 114, 117, 101]) && ((t.args.length : Int) == 0)) = false := by
      have e : ((t.args.length : Int) == 0) = decide (t.args.length = 0) := by apply Bool.eq_iff_iff.2; simp
      rw [e]; exact h2
    by_cases hk : t.kind = 1
    · have hkk : (t.kind == 1) = true := by simpa using hk
      have HG : Hid (t.gather = [callOf t]) := Tm.gather_var hk
      rw [HG.out]
      unfold tmV
      have d1 : (t.name.toList == [44]) = false := var_name hk _ (by simp)
      have d2 : (t.name.toList == [116, 114, 117, 101]) = false := var_name hk _ (by simp)
      have HTW : Hid (∀ (W : World) (v' : Value), GB h w0 W b v' L → h + 5 ≤ W.heap.size → ∀ o1 o2, TmAt (fun k => v'.ownBlock ≠ some k ∧ (k < h ∨ h + 5 ≤ k)) ((W.alloc o1).alloc o2).drew t (.slice ao t.args.length cc)) := fun W v' G hs o1 o2 => HT.out.mono fun k hk hp => ⟨⟨own_ne G.own.own (by omega), .inl hp⟩, by
        show ((W.alloc _).alloc _).heap[k]? = _
        rw [Below.heap_alloc _ _ k (by have := G.size; simp; omega), Below.heap_alloc _ _ k (by have := G.size; omega)]
        exact G.bel.block k (by omega)⟩
      clear ht hB hok hsz h1 h2 HG hk hc1 hc2 hcm htr
      go_enter Try.func81, Try.ntmps81
      go_upto_region 8 with (first | (go_at_call 38; ((with_reducible refine (CN.out _).mono ?_); rintro e W2 ⟨rfl, bb⟩; have P2 := Lib.hid ((below_one wq (.cells #[.int .i64 t.kind, .int .i64 t.num, .string t.name, .slice ao t.args.length cc] 24)).trans (bb.mono (by simp))); have G2 := Lib.hid (HB0.out.below bb); have X2 := Lib.hid (HX0.out.block (bb.block _ (HX0.out.lt (by simp)))); obtain ⟨x0, x1, x2, x3⟩ := kk4' X2.out; clear bb)))
      have ob := G2.out.obox.c0
      have hg2 := G2.out.size
      have hg1 : h + 1 < W2.heap.size := by omega
      have hx2 := X2.out.lt (by simp)
      have hg1' : h + 1 < W2.heap.size + 1 := by omega
      have hx2' : wq.heap.size < W2.heap.size + 1 := by have : wq.heap.size < W2.heap.size := hx2; omega
      obtain ⟨oa, oc, rfl, _⟩ := G2.out.own.shape
      have hZ : Hid (∀ o1 o2, Below W2.heap.size W2 ((W2.alloc o1).alloc o2).drew) := fun o1 o2 => (((Below.refl _ _).alloc (Nat.le_refl _) o1).alloc (by simp) o2).drew
      have CA : Hid (∀ o2, TmAt (fun k => (Value.slice oa L.length oc).ownBlock ≠ some k ∧ (k < h ∨ h + 5 ≤ k)) ((W2.alloc (.cells #[.int .i64 t.kind, .int .i64 t.num, .string t.name, .slice ao t.args.length cc] 24)).alloc o2).drew (callOf t) (.slice (some ⟨W2.heap.size, 0, none⟩) 1 1)) := fun o2 =>
        callAt ((cellsT_new W2 t _ 24).block (by show ((W2.alloc _).alloc o2).heap[W2.heap.size]? = _; exact Below.heap_alloc _ _ _ (by simp))) (HTW.out _ _ G2.out hg2 _ _) ⟨own_far G2.out.own.own (Nat.le_refl _), .inr hg2⟩
      have CB : Hid (∀ o2, TmAt (fun k => (Value.slice oa L.length oc).ownBlock ≠ some k ∧ (k < h ∨ h + 5 ≤ k)) ((W2.alloc o2).alloc (.cells #[.int .i64 t.kind, .int .i64 t.num, .string t.name, .slice ao t.args.length cc] 24)).drew (callOf t) (.slice (some ⟨W2.heap.size + 1, 0, none⟩) 1 1)) := fun o2 => by
        have h0 := cellsT_new (W2.alloc o2) t (.slice ao t.args.length cc) 24
        simp only [World.size_alloc] at h0
        exact callAt (h0.block rfl) (HTW.out _ _ G2.out hg2 _ _) ⟨own_far G2.out.own.own (by omega), .inr (by omega)⟩
      go_region_law
        ((refine step_appendX rfl (.tmp 49) (.tmp 54) 22 rfl (h + 5) 24 i0 (.agg #[.int .i64 0, .int .i64 0, .string ByteArray.empty, .slice none 0 0]) 4 56 Try.underlying22 hi hz0 hz1 hz2 rfl (by decide) _ L.length (tmCs L) rfl (G2.out.below (hZ.out _ _)).own.own (#[.int .i64 0, .int .i64 0, .string ⟨#[]⟩, .slice none 0 0] : Array Value).toList _ rfl ?_ rfl ?_ ⟨by omega, by omega⟩ ?_ ?_; (· first | exact news_2a _ _ _ _ | exact news_2b _ _ _ _); (· exact one4r rfl rfl rfl rfl); (· exact (G2.out.below (hZ.out _ _)).size); intro g1 cap1 w1 ow bw kw aw; have PU := Lib.hid ((G2.out.below (hZ.out _ _)).pushed ow bw kw aw); have KW := Lib.hid kw; have AW := Lib.hid aw; have z0 := PU.out.c0; have z1 := PU.out.c1; have z2 := PU.out.c2; have z3 := PU.out.c3; have zf0 := PU.out.fr (L.length * 4); have zf1 := PU.out.fr (L.length * 4 + 1); have zf2 := PU.out.fr (L.length * 4 + 2); have zf3 := PU.out.fr (L.length * 4 + 3); have bo0 := PU.out.box.c0; have bof := PU.out.box.f0; have hix := PU.out.ix; have hg5 := PU.out.hg; clear ow bw kw aw))
      all_goals
        first
          | have HD := Lib.hid (PU.out.done (callOf t) _ ((CA.out _).keptBut KW.out (lies_at AW.out)))
          | have HD := Lib.hid (PU.out.done (callOf t) _ ((CB.out _).keptBut KW.out (lies_at AW.out)))
        clear PU KW AW
        first
          | (rw [set4_comm _ _ _ _ _ _ _ _ _ (by omega)])
          | skip
        go_wp2
        go_end0
        exact ⟨rfl, _, [(callOf t, _)], HD.out.1, rfl, (Kp.below _ (P2.out.trans ((hZ.out _ _).mono P2.out.size))).trans HD.out.2⟩
    · have hkk : (t.kind == 1) = false := by simpa using hk
      have HG : Hid (t.gather = [t]) := Tm.gather_self h1 h2 hk
      rw [HG.out]
      unfold tmV
      have D : ((t.name.toList == [44]) = true ∧ ((t.args.length : Int) == 2) = false ∧ (t.name.toList == [116, 114, 117, 101]) = false) ∨ ((t.name.toList == [44]) = false ∧ (t.name.toList == [116, 114, 117, 101]) = true ∧ ((t.args.length : Int) == 0) = false) ∨ ((t.name.toList == [44]) = false ∧ (t.name.toList == [116, 114, 117, 101]) = false) := by
        rcases names_self hcm htr with h | h | h | ⟨e1, e2, _⟩
        · exact .inl h
        · exact .inr (.inl h)
        · exact .inr (.inr h)
        · exfalso
          have e1' : t.name.toList = [44] := by simpa using e1
          have e2' : t.name.toList = [116, 114, 117, 101] := by simpa using e2
          rw [e1'] at e2'
          simp at e2'
      clear ht hB hok hsz h1 h2 HG hk hc1 hc2 hcm htr
      have HTW : Hid (∀ (W : World) (v' : Value), GB h w0 W b v' L → h + 5 ≤ W.heap.size → TmAt (fun k => v'.ownBlock ≠ some k ∧ (k < h ∨ h + 5 ≤ k)) (W.alloc (.cells #[.int .i64 0, .int .i64 0, .string ⟨#[]⟩, .slice none 0 0] 24)).drew t (.slice ao t.args.length cc)) := fun W v' G hs => HT.out.mono fun k hk hp => ⟨⟨own_ne G.own.own (by omega), .inl hp⟩, by
        show (W.alloc _).heap[k]? = _
        rw [Below.heap_alloc _ _ k (by have := G.size; omega)]
        exact G.bel.block k (by omega)⟩
      rcases D with ⟨d1, d2, d3⟩ | ⟨d1, d2, d3⟩ | ⟨d1, d2⟩
      all_goals
        go_enter Try.func81, Try.ntmps81
        go_upto_region 2 with (first | (go_at_call 38; ((with_reducible refine (CN.out _).mono ?_); rintro e W2 ⟨rfl, bb⟩; have P2 := Lib.hid ((below_one wq (.cells #[.int .i64 t.kind, .int .i64 t.num, .string t.name, .slice ao t.args.length cc] 24)).trans (bb.mono (by simp))); have G2 := Lib.hid (HB0.out.below bb); have X2 := Lib.hid (HX0.out.block (bb.block _ (HX0.out.lt (by simp)))); obtain ⟨x0, x1, x2, x3⟩ := kk4' X2.out; clear bb)))
        have ob := G2.out.obox.c0
        have hg2 := G2.out.size
        have hg1 : h + 1 < W2.heap.size := by omega
        have hx2 := X2.out.lt (by simp)
        obtain ⟨oa, oc, rfl, _⟩ := G2.out.own.shape
        have hZ : Hid (∀ o, Below W2.heap.size W2 (W2.alloc o).drew) := fun o => ((Below.refl _ _).alloc (Nat.le_refl _) o).drew
        go_region_law
          ((refine step_appendX rfl (.tmp 13) (.tmp 16) 22 rfl (h + 5) 24 i0 (.agg #[.int .i64 0, .int .i64 0, .string ByteArray.empty, .slice none 0 0]) 4 56 Try.underlying22 hi hz0 hz1 hz2 rfl (by decide) _ L.length (tmCs L) rfl (G2.out.below (hZ.out _)).own.own (#[.int .i64 0, .int .i64 0, .string ⟨#[]⟩, .slice none 0 0] : Array Value).toList _ rfl ?_ rfl ?_ ⟨by omega, by omega⟩ ?_ ?_; (· exact news_drew _ _ _); (· exact one4r rfl rfl rfl rfl); (· exact (G2.out.below (hZ.out _)).size); intro g1 cap1 w1 ow bw kw aw; have PU := Lib.hid ((G2.out.below (hZ.out _)).pushed ow bw kw aw); have KW := Lib.hid kw; have AW := Lib.hid aw; have z0 := PU.out.c0; have z1 := PU.out.c1; have z2 := PU.out.c2; have z3 := PU.out.c3; have zf0 := PU.out.fr (L.length * 4); have zf1 := PU.out.fr (L.length * 4 + 1); have zf2 := PU.out.fr (L.length * 4 + 2); have zf3 := PU.out.fr (L.length * 4 + 3); have bo0 := PU.out.box.c0; have bof := PU.out.box.f0; have hix := PU.out.ix; have hg5 := PU.out.hg; clear ow bw kw aw))
        all_goals
          have HD := Lib.hid (PU.out.done t _ (TmAt.keptBut (v := .slice oa L.length oc) (w := (W2.alloc (.cells #[.int .i64 0, .int .i64 0, .string ⟨#[]⟩, .slice none 0 0] 24)).drew) (HTW.out _ _ G2.out hg2) KW.out (lies_at AW.out)))
          clear PU KW AW
          first
            | (rw [set4_comm _ _ _ _ _ _ _ _ _ (by omega)])
            | skip
          go_wp2
          go_end0
          exact ⟨rfl, _, [(t, _)], HD.out.1, rfl, (Kp.below _ (P2.out.trans ((hZ.out _).mono P2.out.size))).trans HD.out.2⟩
end Go.Proofs.Ytmffobadnmkpbaa
namespace Go.Proofs.Ytmffobadnmkpbaa
open Go.RowKit

set_option maxRecDepth 100000 in
set_option maxHeartbeats 3200000 in
theorem gath_and (h : Nat) (w0 : World) (t : Tm) (va : Value) (wq : World) (b : Bool) (v : Value) (L : List (Tm × Value)) (hB : GB h w0 wq b v L) (ht : TmAt (fun b => b < h) w0 t va) (hok : t.ok) (hsz : L.length + t.size ≤ 1000000) (h1 : t.is [44] 2 = true) (hC : ∀ u ∈ t.args, GathC h w0 u) :
    Calls Try.prog 81 #[tmV t va, .pointer (some ⟨h + 4, 0, none⟩), .pointer (some ⟨h + 1, 0, none⟩)] wq fun e w' => e = .returned (.tuple #[]) ∧ ∃ v' X, GB h w0 w' b v' (L ++ X) ∧ X.map Prod.fst = t.gather ∧ Kp h wq w' v v' := by
  obtain ⟨ao, cc, rfl, hc1, hc2⟩ := ht.shape
  obtain ⟨x, y, hxy, hg, hk⟩ := Tm.gather_and h1
  have CX := Lib.hid (hC x (by rw [hxy]; simp))
  have CY := Lib.hid (hC y (by rw [hxy]; simp))
  have hox := Lib.hid (Tm.ok_args hok x (by rw [hxy]; simp))
  have hoy := Lib.hid (Tm.ok_args hok y (by rw [hxy]; simp))
  have hss : t.size = 1 + (x.size + y.size) := by rw [t.size_eq, hxy]; simp [Tm.sizes]
  have hgx := x.gather_len
  have hl2 : t.args.length = 2 := by rw [hxy]; rfl
  obtain ⟨b1, off, a0, hao, hpb, hcx, htx⟩ := (show ∃ b off a, ao = some ⟨b, off, none⟩ ∧ b < h ∧ CellsT w0 b (off + 0 * 4) x a ∧ TmAt (fun b => b < h) w0 x a by
    obtain ⟨b, off, a, h1, _, h2, h3, h4⟩ := ht.arg 0 (by omega)
    have e : t.args[0] = x := by simp [hxy]
    rw [e] at h3 h4
    exact ⟨b, off, a, h1, h2, h3, h4⟩)
  obtain ⟨b', off', a1, hao', hcy, hty⟩ := (show ∃ b off a, ao = some ⟨b, off, none⟩ ∧ CellsT w0 b (off + 1 * 4) y a ∧ TmAt (fun b => b < h) w0 y a by
    obtain ⟨b, off, a, h1, _, h2, h3, h4⟩ := ht.arg 1 (by omega)
    have e : t.args[1] = y := by simp [hxy]
    rw [e] at h3 h4
    exact ⟨b, off, a, h1, h3, h4⟩)
  subst hao
  simp only [Option.some.injEq, Addr.mk.injEq, and_true] at hao'
  obtain ⟨rfl, rfl⟩ := hao'
  obtain ⟨p0, q0, rfl, _⟩ := htx.shape
  obtain ⟨p1, q1, rfl, _⟩ := hty.shape
  simp only [Nat.zero_mul, Nat.add_zero, Nat.one_mul] at hcx hcy
  have HXC := Lib.hid hcx
  have HYC := Lib.hid hcy
  have HXT := Lib.hid htx
  have HYT := Lib.hid hty
  have CN := Lib.hid (fun W => normName_c t (some ⟨b1, off, none⟩) cc W)
  have HB0 := Lib.hid (hB.below (below_one wq (.cells #[.int .i64 t.kind, .int .i64 t.num, .string t.name, .slice (some ⟨b1, off, none⟩) t.args.length cc] 24)))
  have HX0 := Lib.hid (BoxL.mk' wq #[.int .i64 t.kind, .int .i64 t.num, .string t.name, .slice (some ⟨b1, off, none⟩) t.args.length cc] 24)
  have d1 : (t.name.toList == [44]) = true := by simp only [Tm.is, Bool.and_eq_true] at h1; exact h1.1
  rw [hg]
  have hsq := hB.size
  rw [hl2] at CN HB0 HX0 ⊢
  unfold tmV
  rw [hk] at CN HB0 HX0 ⊢
  have HSS := Lib.hid hss
  have HVN : Hid (v.ownBlock ≠ some wq.heap.size) := own_far hB.own.own (Nat.le_refl _)
  clear ht hC hB hok h1 hxy hg hk hcx hcy htx hty hss hc1 hc2
  -- what a world knows that holds on to it all
  have KX : Hid (∀ W b' v' L', GB h w0 W b' v' L' → BoxL W wq.heap.size [.int .i64 4, .int .i64 t.num, .string t.name, .slice (some ⟨b1, off, none⟩) 2 cc] → W.cell? ⟨h + 4, 0, none⟩ = some (.func (.func 81) #[] #[.pointer (some ⟨h + 4, 0, none⟩), .pointer (some ⟨h + 1, 0, none⟩)]) ∧ W.cell? ⟨wq.heap.size, 3, none⟩ = some (.slice (some ⟨b1, off, none⟩) 2 cc) ∧ W.cell? ⟨b1, off, none⟩ = some (.int .i64 x.kind) ∧ W.cell? ⟨b1, off + 1, none⟩ = some (.int .i64 x.num) ∧ W.cell? ⟨b1, off + 2, none⟩ = some (.string x.name) ∧ W.cell? ⟨b1, off + 3, none⟩ = some (.slice p0 x.args.length q0)) := fun W b' v' L' G X => by
    have hc := HXC.out.block (G.bel.block _ (by omega))
    exact ⟨G.gbox.c0, (kk4' X).2.2.2, hc.c0, hc.c1, hc.c2, hc.c3⟩
  have KY : Hid (∀ W b' v' L', GB h w0 W b' v' L' → BoxL W wq.heap.size [.int .i64 4, .int .i64 t.num, .string t.name, .slice (some ⟨b1, off, none⟩) 2 cc] → W.cell? ⟨h + 4, 0, none⟩ = some (.func (.func 81) #[] #[.pointer (some ⟨h + 4, 0, none⟩), .pointer (some ⟨h + 1, 0, none⟩)]) ∧ W.cell? ⟨wq.heap.size, 3, none⟩ = some (.slice (some ⟨b1, off, none⟩) 2 cc) ∧ W.cell? ⟨b1, off + 4, none⟩ = some (.int .i64 y.kind) ∧ W.cell? ⟨b1, off + 4 + 1, none⟩ = some (.int .i64 y.num) ∧ W.cell? ⟨b1, off + 4 + 2, none⟩ = some (.string y.name) ∧ W.cell? ⟨b1, off + 4 + 3, none⟩ = some (.slice p1 y.args.length q1)) := fun W b' v' L' G X => by
    have hc := HYC.out.block (G.bel.block _ (by omega))
    exact ⟨G.gbox.c0, (kk4' X).2.2.2, hc.c0, hc.c1, hc.c2, hc.c3⟩
  go_enter Try.func81, Try.ntmps81
  go_upto_region 4 with (first | (go_at_call 38; ((with_reducible refine (CN.out _).mono ?_); rintro e W2 ⟨rfl, bb⟩; have P2 := Lib.hid ((below_one wq (.cells #[.int .i64 4, .int .i64 t.num, .string t.name, .slice (some ⟨b1, off, none⟩) 2 cc] 24)).trans (bb.mono (by simp))); have G2 := Lib.hid (HB0.out.below bb); have X2 := Lib.hid (HX0.out.block (bb.block _ (HX0.out.lt (by simp)))); obtain ⟨x0, x1, x2, x3⟩ := kk4' X2.out; clear bb)))
  clear x0 x1 x2 x3
  obtain ⟨k0, k1, k2, k3, k4, k5⟩ := KX.out _ _ _ _ G2.out X2.out
  have CCX : Hid (∀ W, Below W2.heap.size W2 W → Calls Try.prog 81 #[.agg #[.int .i64 x.kind, .int .i64 x.num, .string x.name, .slice p0 x.args.length q0], .pointer (some ⟨h + 4, 0, none⟩), .pointer (some ⟨h + 1, 0, none⟩)] W fun e w' => e = .returned (.tuple #[]) ∧ ∃ v' X, GB h w0 w' b v' (L ++ X) ∧ X.map Prod.fst = x.gather ∧ Kp h W2 w' v v' ∧ BoxL w' wq.heap.size [.int .i64 4, .int .i64 t.num, .string t.name, .slice (some ⟨b1, off, none⟩) 2 cc]) := fun W hW =>
    (CX.out _ W b v L (G2.out.below hW) HXT.out hox.out (by have := HSS.out; omega)).mono fun e w' ⟨h1, v', X, h2, h3, h4⟩ => ⟨h1, v', X, h2, h3, (Kp.below v hW).trans h4, (X2.out.block (hW.block _ (X2.out.lt (by simp)))).block (h4.1 _ (Nat.lt_of_lt_of_le (X2.out.lt (by simp)) hW.size) (by omega) (HVN.out))⟩
  go_region_held3 (fun W => W.cell? ⟨h + 4, 0, none⟩ = some (.func (.func 81) #[] #[.pointer (some ⟨h + 4, 0, none⟩), .pointer (some ⟨h + 1, 0, none⟩)]) ∧ W.cell? ⟨wq.heap.size, 3, none⟩ = some (.slice (some ⟨b1, off, none⟩) 2 cc) ∧ W.cell? ⟨b1, off, none⟩ = some (.int .i64 x.kind) ∧ W.cell? ⟨b1, off + 1, none⟩ = some (.int .i64 x.num) ∧ W.cell? ⟨b1, off + 2, none⟩ = some (.string x.name) ∧ W.cell? ⟨b1, off + 3, none⟩ = some (.slice p0 x.args.length q0))
    ((first | exact KX.out _ _ _ _ G3.out X3.out | exact ⟨k0, k1, k2, k3, k4, k5⟩))
    (first
      | (go_at_call 81; refine (CCX.out _ ?_).mono ?_; (· go_grown); rintro e W3 ⟨rfl, v3, X, g3, hx3, kp3, bx3⟩; have G3 := Lib.hid g3; have X3 := Lib.hid bx3; have K3 := Lib.hid kp3; have HX3 := Lib.hid hx3; clear g3 hx3 kp3 bx3))
  clear k0 k1 k2 k3 k4 k5
  go_upto_region 5 with (fail)
  obtain ⟨k0, k1, k2, k3, k4, k5⟩ := KY.out _ _ _ _ G3.out X3.out
  have hXl : X.length = x.gather.length := by rw [← HX3.out]; simp
  have CCY : Hid (∀ W, Below W3.heap.size W3 W → Calls Try.prog 81 #[.agg #[.int .i64 y.kind, .int .i64 y.num, .string y.name, .slice p1 y.args.length q1], .pointer (some ⟨h + 4, 0, none⟩), .pointer (some ⟨h + 1, 0, none⟩)] W fun e w' => e = .returned (.tuple #[]) ∧ ∃ v' X2, GB h w0 w' b v' ((L ++ X) ++ X2) ∧ X2.map Prod.fst = y.gather ∧ Kp h W3 w' v3 v' ∧ BoxL w' wq.heap.size [.int .i64 4, .int .i64 t.num, .string t.name, .slice (some ⟨b1, off, none⟩) 2 cc]) := fun W hW =>
    (CY.out _ W b v3 _ (G3.out.below hW) HYT.out hoy.out (by have := HSS.out; simp only [List.length_append]; omega)).mono fun e w' ⟨h1, v', X, h2, h3, h4⟩ => ⟨h1, v', X, h2, h3, (Kp.below v3 hW).trans h4, (X3.out.block (hW.block _ (X3.out.lt (by simp)))).block (h4.1 _ (Nat.lt_of_lt_of_le (X3.out.lt (by simp)) hW.size) (by omega) (fun e => by rcases K3.out.2.1 _ e with e' | e'; (· exact HVN.out e'); (· have := P2.out.size; have : wq.heap.size < W2.heap.size := X2.out.lt (by simp); omega)))⟩
  clear hXl
  go_region_held3 (fun W => W.cell? ⟨h + 4, 0, none⟩ = some (.func (.func 81) #[] #[.pointer (some ⟨h + 4, 0, none⟩), .pointer (some ⟨h + 1, 0, none⟩)]) ∧ W.cell? ⟨wq.heap.size, 3, none⟩ = some (.slice (some ⟨b1, off, none⟩) 2 cc) ∧ W.cell? ⟨b1, off + 4, none⟩ = some (.int .i64 y.kind) ∧ W.cell? ⟨b1, off + 4 + 1, none⟩ = some (.int .i64 y.num) ∧ W.cell? ⟨b1, off + 4 + 2, none⟩ = some (.string y.name) ∧ W.cell? ⟨b1, off + 4 + 3, none⟩ = some (.slice p1 y.args.length q1))
    ((first | exact KY.out _ _ _ _ G4.out X4.out | exact ⟨k0, k1, k2, k3, k4, k5⟩))
    (first
      | (go_at_call 81; refine (CCY.out _ ?_).mono ?_; (· go_grown); rintro e W4 ⟨rfl, v4, Y, g4, hx4, kp4, bx4⟩; have G4 := Lib.hid g4; have X4 := Lib.hid bx4; have K4 := Lib.hid kp4; have HX4 := Lib.hid hx4; clear g4 hx4 kp4 bx4))
  go_wp2
  go_end0
  exact ⟨rfl, v4, X ++ Y, by rw [← List.append_assoc]; exact G4.out, by rw [List.map_append, HX3.out, HX4.out], ((Kp.below v P2.out).trans K3.out).trans K4.out⟩
theorem gath_all (h : Nat) (w0 : World) (t : Tm) : GathC h w0 t := by
  induction t using Tm.ind with
  | h4 s l ih =>
    intro va wr b v L hB ht hok hs
    cases h1 : Tm.is (.cmp s l) [44] 2 with
    | true => exact gath_and h w0 _ va wr b v L hB ht hok hs h1 ih
    | false => exact gath_leaf h w0 _ va wr b v L hB ht hok hs h1
  | _ =>
    intro va wr b v L hB ht hok hs
    exact gath_leaf h w0 _ va wr b v L hB ht hok hs (by simp [Tm.is, Tm.args])
/-- what Goals tells: the goals, in a row of its own; or that there is none -/
def RetGoals (t : Tm) (w : World) (e : Ending) (w' : World) : Prop :=
  if t.callable then ∃ ao cap Lv, e = .returned (.tuple #[.slice ao Lv.length cap, .int .i64 0]) ∧ OwnTs (fun b => b < w.heap.size ∨ w.heap.size + 5 ≤ b) w.heap.size w' (.slice ao Lv.length cap) Lv ∧ Lv.map Prod.fst = t.gather ∧ Below w.heap.size w w'
  else e = .returned (.tuple #[.slice none 0 0, .int .i64 101]) ∧ Below w.heap.size w w'
theorem GB.start (w : World) (o : Obj) :
    GB w.heap.size (w.alloc o) (((((w.alloc o).alloc (.cells #[.slice none 0 0] 22)).alloc (.cells #[.bool false] 4)).alloc (.cells #[.func (.func 80) #[] #[.pointer (some ⟨w.heap.size + 1 + 1, 0, none⟩), .pointer (some ⟨w.heap.size + 1 + 1 + 1, 0, none⟩)]] 75)).alloc (.cells #[.func (.func 81) #[] #[.pointer (some ⟨w.heap.size + 1 + 1 + 1 + 1, 0, none⟩), .pointer (some ⟨w.heap.size + 1, 0, none⟩)]] 75)) false (.slice none 0 0) [] := by
  have al : ∀ (W : World) (o : Obj) (B : Nat), B ≤ W.heap.size → Below B W (W.alloc o) := fun W o B h => (Below.refl B W).alloc h o
  refine ⟨?_, OwnTs.none _ _ _, ?_, ?_, ?_, ?_, by simp⟩
  · have h := Box1.mk' (w.alloc o) (.slice none 0 0) 22
    rw [show (w.alloc o).heap.size = w.heap.size + 1 by simp] at h
    exact ((h.below (al _ _ (w.heap.size + 2) (by simp)) (by omega)).below (al _ _ (w.heap.size + 2) (by simp)) (by omega)).below (al _ _ (w.heap.size + 2) (by simp)) (by omega)
  · have h := Box1.mk' ((w.alloc o).alloc (.cells #[.slice none 0 0] 22)) (.bool false) 4
    rw [show ((w.alloc o).alloc (.cells #[.slice none 0 0] 22)).heap.size = w.heap.size + 2 by simp] at h
    exact (h.below (al _ _ (w.heap.size + 3) (by simp)) (by omega)).below (al _ _ (w.heap.size + 3) (by simp)) (by omega)
  · have h := Box1.mk' (((w.alloc o).alloc (.cells #[.slice none 0 0] 22)).alloc (.cells #[.bool false] 4)) (.func (.func 80) #[] #[.pointer (some ⟨w.heap.size + 1 + 1, 0, none⟩), .pointer (some ⟨w.heap.size + 1 + 1 + 1, 0, none⟩)]) 75
    rw [show (((w.alloc o).alloc (.cells #[.slice none 0 0] 22)).alloc (.cells #[.bool false] 4)).heap.size = w.heap.size + 3 by simp] at h
    exact h.below (al _ _ (w.heap.size + 4) (by simp)) (by omega)
  · have h := Box1.mk' ((((w.alloc o).alloc (.cells #[.slice none 0 0] 22)).alloc (.cells #[.bool false] 4)).alloc (.cells #[.func (.func 80) #[] #[.pointer (some ⟨w.heap.size + 1 + 1, 0, none⟩), .pointer (some ⟨w.heap.size + 1 + 1 + 1, 0, none⟩)]] 75)) (.func (.func 81) #[] #[.pointer (some ⟨w.heap.size + 1 + 1 + 1 + 1, 0, none⟩), .pointer (some ⟨w.heap.size + 1, 0, none⟩)]) 75
    rw [show ((((w.alloc o).alloc (.cells #[.slice none 0 0] 22)).alloc (.cells #[.bool false] 4)).alloc (.cells #[.func (.func 80) #[] #[.pointer (some ⟨w.heap.size + 1 + 1, 0, none⟩), .pointer (some ⟨w.heap.size + 1 + 1 + 1, 0, none⟩)]] 75)).heap.size = w.heap.size + 4 by simp] at h
    exact h
  · exact (((al _ _ _ (by simp)).trans (al _ _ _ (by simp))).trans (al _ _ _ (by simp))).trans (al _ _ _ (by simp))
set_option maxRecDepth 100000 in
set_option maxHeartbeats 3200000 in
theorem goals_c (t : Tm) (va : Value) (w : World) (ht : TmAt (fun _ => True) w t va) (hok : t.ok) (hn : t.size ≤ 100000) :
    Calls Try.prog 35 #[tmV t va] w (RetGoals t w) := by
  obtain ⟨ao, cc, rfl, hc1, hc2⟩ := ht.shape
  have HT : Hid (TmAt (fun b => b < w.heap.size) w t (.slice ao t.args.length cc)) := ht.mono fun b hb _ => ⟨hb, rfl⟩
  have HT0 : TmAt (fun b => b < w.heap.size) (w.alloc (.cells #[.int .i64 t.kind, .int .i64 t.num, .string t.name, .slice ao t.args.length cc] 24)) t (.slice ao t.args.length cc) := HT.out.mono fun b hb hp => ⟨hp, Below.heap_alloc _ _ b hb⟩
  have G0 := Lib.hid (GB.start w (.cells #[.int .i64 t.kind, .int .i64 t.num, .string t.name, .slice ao t.args.length cc] 24))
  have CK : Hid (∀ W b v L, GB w.heap.size (w.alloc (.cells #[.int .i64 t.kind, .int .i64 t.num, .string t.name, .slice ao t.args.length cc] 24)) W b v L → Calls Try.prog 80 #[.agg #[.int .i64 t.kind, .int .i64 t.num, .string t.name, .slice ao t.args.length cc], .pointer (some ⟨w.heap.size + 1 + 1, 0, none⟩), .pointer (some ⟨w.heap.size + 1 + 1 + 1, 0, none⟩)] W fun e w' => e = .returned (.tuple #[]) ∧ GB w.heap.size (w.alloc (.cells #[.int .i64 t.kind, .int .i64 t.num, .string t.name, .slice ao t.args.length cc] 24)) w' (b || !t.callable) v L) := fun W b v L G => check_all w.heap.size _ t _ W b v L G HT0 (by omega)
  have CG : Hid (∀ W b v, GB w.heap.size (w.alloc (.cells #[.int .i64 t.kind, .int .i64 t.num, .string t.name, .slice ao t.args.length cc] 24)) W b v [] → Calls Try.prog 81 #[.agg #[.int .i64 t.kind, .int .i64 t.num, .string t.name, .slice ao t.args.length cc], .pointer (some ⟨w.heap.size + 1 + 1 + 1 + 1, 0, none⟩), .pointer (some ⟨w.heap.size + 1, 0, none⟩)] W fun e w' => e = .returned (.tuple #[]) ∧ ∃ v' X, GB w.heap.size (w.alloc (.cells #[.int .i64 t.kind, .int .i64 t.num, .string t.name, .slice ao t.args.length cc] 24)) w' b v' X ∧ X.map Prod.fst = t.gather) := fun W b v G => (gath_all w.heap.size _ t _ W b v [] G HT0 hok (by simp; omega)).mono fun e w' ⟨h1, v', X, h2, h3, _⟩ => ⟨h1, v', X, by simpa using h2, h3⟩
  have FACT : Hid (∀ W b v L, GB w.heap.size (w.alloc (.cells #[.int .i64 t.kind, .int .i64 t.num, .string t.name, .slice ao t.args.length cc] 24)) W b v L → (W.cell? ⟨w.heap.size, 0, none⟩ = some (.int .i64 t.kind) ∧ W.cell? ⟨w.heap.size, 1, none⟩ = some (.int .i64 t.num) ∧ W.cell? ⟨w.heap.size, 2, none⟩ = some (.string t.name) ∧ W.cell? ⟨w.heap.size, 3, none⟩ = some (.slice ao t.args.length cc)) ∧ W.cell? ⟨w.heap.size + 1, 0, none⟩ = some v ∧ W.cell? ⟨w.heap.size + 1 + 1, 0, none⟩ = some (.bool b) ∧ W.cell? ⟨w.heap.size + 1 + 1 + 1 + 1, 0, none⟩ = some (.func (.func 81) #[] #[.pointer (some ⟨w.heap.size + 1 + 1 + 1 + 1, 0, none⟩), .pointer (some ⟨w.heap.size + 1, 0, none⟩)])) := fun W b v L G =>
    ⟨box_one G.bel, G.obox.c0, G.wbox.c0, G.gbox.c0⟩
  cases hcl : t.callable with
  | true =>
    rw [hcl] at CK
    have hR : RetGoals t w = fun e w' => ∃ ao cap Lv, e = .returned (.tuple #[.slice ao Lv.length cap, .int .i64 0]) ∧ OwnTs (fun b => b < w.heap.size ∨ w.heap.size + 5 ≤ b) w.heap.size w' (.slice ao Lv.length cap) Lv ∧ Lv.map Prod.fst = t.gather ∧ Below w.heap.size w w' := by funext e w'; simp only [RetGoals, hcl, if_true]
    rw [hR]
    clear ht hok hn hc1 hc2 hcl HT0 hR
    unfold tmV
    go_enter Try.func35, Try.ntmps35
    go_wp2_with (first
      | (go_at_call 80; ((with_reducible refine (CK.out _ _ _ _ G0.out).mono ?_); rintro e W1 ⟨rfl, g1⟩; have G1 : Hid (GB w.heap.size (w.alloc (.cells #[.int .i64 t.kind, .int .i64 t.num, .string t.name, .slice ao t.args.length cc] 24)) W1 false (.slice none 0 0) []) := g1; obtain ⟨⟨x0, x1, x2, x3⟩, y0, y1, y2⟩ := FACT.out _ _ _ _ G1.out; clear g1))
      | (go_at_call 81; ((with_reducible refine (CG.out _ _ _ G1.out).mono ?_); rintro e W2 ⟨rfl, v2, X, g2, hx⟩; have G2 := Lib.hid g2; have HX := Lib.hid hx; clear x0 x1 x2 x3 y0 y1 y2; obtain ⟨⟨x0, x1, x2, x3⟩, y0, y1, y2⟩ := FACT.out _ _ _ _ g2; clear g2 hx)))
    obtain ⟨a2, c2, rfl, _⟩ := G2.out.own.shape
    go_ret2
    exact ⟨a2, c2, X, rfl, G2.out.own.weaken (by omega) (fun _ h => h), HX.out, below_box G2.out.bel⟩
  | false =>
    rw [hcl] at CK
    have hR : RetGoals t w = fun e w' => e = .returned (.tuple #[.slice none 0 0, .int .i64 101]) ∧ Below w.heap.size w w' := by funext e w'; simp only [RetGoals, hcl, Bool.false_eq_true, if_false]
    rw [hR]
    clear ht hok hn hc1 hc2 hcl HT0 hR
    unfold tmV
    go_enter Try.func35, Try.ntmps35
    go_wp2_with (first
      | (go_at_call 80; ((with_reducible refine (CK.out _ _ _ _ G0.out).mono ?_); rintro e W1 ⟨rfl, g1⟩; have G1 : Hid (GB w.heap.size (w.alloc (.cells #[.int .i64 t.kind, .int .i64 t.num, .string t.name, .slice ao t.args.length cc] 24)) W1 true (.slice none 0 0) []) := g1; obtain ⟨⟨x0, x1, x2, x3⟩, y0, y1, y2⟩ := FACT.out _ _ _ _ G1.out; clear g1)))
    go_ret2
    exact ⟨rfl, below_box G1.out.bel⟩
end Go.Proofs.Ytmffobadnmkpbaa
namespace Go.Proofs.Ytmffobadnmkpbaa
open Go.RowKit

def RetRGoals (t : Tm) (w : World) (e : Ending) (w' : World) : Prop :=
  if t.callable then ∃ ao cap, e = .returned (.tuple #[.slice ao t.gather.length cap, .int .i64 0]) ∧ TsAt (fun _ => True) w' (.slice ao t.gather.length cap) t.gather ∧ Below w.heap.size w w'
  else e = .returned (.tuple #[.slice none 0 0, .int .i64 101]) ∧ Below w.heap.size w w'
set_option maxRecDepth 100000 in
theorem rgoals_c (t : Tm) (va : Value) (w : World) (ht : TmAt (fun _ => True) w t va) (hok : t.ok) (hn : t.size ≤ 100000) :
    Calls Try.prog 36 #[tmV t va] w (RetRGoals t w) := by
  obtain ⟨ao, cc, rfl, hc1, hc2⟩ := ht.shape
  have HZ := Lib.hid (below_one w (.cells #[.int .i64 t.kind, .int .i64 t.num, .string t.name, .slice ao t.args.length cc] 24))
  have HX := Lib.hid (BoxL.mk' w #[.int .i64 t.kind, .int .i64 t.num, .string t.name, .slice ao t.args.length cc] 24)
  have CK : Hid (∀ W, Below w.heap.size w W → Calls Try.prog 82 #[.agg #[.int .i64 t.kind, .int .i64 t.num, .string t.name, .slice ao t.args.length cc]] W fun e w' => e = .returned (.bool t.callable) ∧ Below W.heap.size W w') := fun W h => rcall_all t _ W (ht.later h) (by omega)
  have CG : Hid (∀ W, Below w.heap.size w W → Calls Try.prog 83 #[.agg #[.int .i64 t.kind, .int .i64 t.num, .string t.name, .slice ao t.args.length cc]] W (RetOwnT (fun _ => True) t.gather W)) := fun W h => rgath_all t _ _ W (ht.later h) hok (by omega)
  cases hcl : t.callable with
  | true =>
    have hR : RetRGoals t w = fun e w' => ∃ ao cap, e = .returned (.tuple #[.slice ao t.gather.length cap, .int .i64 0]) ∧ TsAt (fun _ => True) w' (.slice ao t.gather.length cap) t.gather ∧ Below w.heap.size w w' := by funext e w'; simp only [RetRGoals, hcl, if_true]
    rw [hR]
    rw [hcl] at CK
    clear ht hok hn hc1 hc2 hcl hR
    unfold tmV
    go_enter Try.func36, Try.ntmps36
    go_wp2_with (first
      | (go_at_call 82; ((with_reducible refine (CK.out _ HZ.out).mono ?_); rintro e W1 ⟨rfl, bb⟩; have B1 := Lib.hid (HZ.out.trans (bb.mono HZ.out.size)); obtain ⟨x0, x1, x2, x3⟩ := kk4' (HX.out.block (bb.block _ (HX.out.lt (by simp)))); clear bb))
      | (go_at_call 83; ((with_reducible refine (CG.out _ B1.out).mono ?_); rintro e W2 ⟨ai, ci, X, rfl, ho, hX, bb⟩; have B2 := Lib.hid (B1.out.trans (bb.mono B1.out.size)); have HO := Lib.hid ho; have HXX := Lib.hid hX; clear bb ho hX)))
    go_ret2
    have hat := HO.out.at
    have hln : X.length = t.gather.length := by rw [← HXX.out]; simp
    rw [HXX.out, hln] at hat
    exact ⟨ai, ci, congrArg (fun n => Ending.returned (.tuple #[.slice ai n ci, .int .i64 0])) hln, hat, B2.out⟩
  | false =>
    have hR : RetRGoals t w = fun e w' => e = .returned (.tuple #[.slice none 0 0, .int .i64 101]) ∧ Below w.heap.size w w' := by funext e w'; simp only [RetRGoals, hcl, Bool.false_eq_true, if_false]
    rw [hR]
    rw [hcl] at CK
    clear ht hok hn hc1 hc2 hcl hR
    unfold tmV
    go_enter Try.func36, Try.ntmps36
    go_wp2_with (first
      | (go_at_call 82; ((with_reducible refine (CK.out _ HZ.out).mono ?_); rintro e W1 ⟨rfl, bb⟩; have B1 := Lib.hid (HZ.out.trans (bb.mono HZ.out.size)); obtain ⟨x0, x1, x2, x3⟩ := kk4' (HX.out.block (bb.block _ (HX.out.lt (by simp)))); clear bb)))
    go_ret2
    exact ⟨rfl, B1.out⟩
/-- what one tells: a term -/
def RetOne10 (w : World) (e : Ending) (w' : World) : Prop := ∃ t ao cap, e = .returned (.agg #[.int .i64 t.kind, .int .i64 t.num, .string t.name, .slice ao t.args.length cap]) ∧ TmAt (fun b => w.heap.size ≤ b) w' t (.slice ao t.args.length cap) ∧ Fine t ∧ Below w.heap.size w w'
set_option maxRecDepth 100000 in
set_option maxHeartbeats 1600000 in
theorem one10_c (s : ByteArray) (w : World) : Calls Try.prog 34 #[.string s] w (RetOne10 w) := by
  have HZ : Hid (∀ T, Below w.heap.size w (w.alloc (.cells #[.int .i64 0, .int .i64 0, .string ⟨#[]⟩, .slice none 0 0] T))) := fun T => (Below.refl _ _).alloc (Nat.le_refl _) _
  have F1 : Fine (.int 1) := ⟨.int (by omega) (by omega), by simp [Tm.size]⟩
  by_cases hs : 1024 < s.size
  · go_enter Try.func34, Try.ntmps34
    go_wp2
    refine bodyPost_ret (v := .agg #[.int .i64 2, .int .i64 1, .string ⟨#[]⟩, .slice none 0 0]) (by simp [results, Try.results34, go_sem]; try rfl) rfl ?_
    exact ⟨.int 1, none, 0, rfl, .leaf rfl, F1, (Below.refl _ _).alloc (Nat.le_refl _) _⟩
  have CR := Lib.hid (fun T => one5_c s (by omega) (w.alloc (.cells #[.int .i64 0, .int .i64 0, .string ⟨#[]⟩, .slice none 0 0] T)))
  go_enter Try.func34, Try.ntmps34
  go_upto_region 3 with (first | (go_at_call 60; ((with_reducible refine (CR.out _).mono ?_); rintro e W1 ⟨t, a, an, nn, cn, pl, x, rfl, ht, hok, b1⟩; obtain ⟨p0, q0, rfl, _⟩ := ht.shape; have HT := Lib.hid ht; have HO := Lib.hid hok; have B1 := Lib.hid b1; have hbx := (BoxL.mk' w #[.int .i64 0, .int .i64 0, .string ⟨#[]⟩, .slice none 0 0] 24).below b1 (by simp); obtain ⟨x0, f0⟩ := hbx.get 0 rfl; obtain ⟨x1, f1⟩ := hbx.get 1 rfl; obtain ⟨x2, f2⟩ := hbx.get 2 rfl; obtain ⟨x3, f3⟩ := hbx.get 3 rfl; have hsz := hbx.lt (by simp); have HBX := Lib.hid hbx; clear ht hok b1 hbx)))
  by_cases hx : x = 0
  · subst hx
    have HF := Lib.hid (HO.out rfl)
    clear HO
    go_wp2
    refine bodyPost_ret (v := .agg #[.int .i64 t.kind, .int .i64 t.num, .string t.name, .slice p0 t.args.length q0]) ?_ rfl ?_
    · have h4 := (((HBX.out.set 0 (by simp) (.int .i64 t.kind)).set 1 (by simp) (.int .i64 t.num)).set 2 (by simp) (.string t.name)).set 3 (by simp) (.slice p0 t.args.length q0)
      have h5 := h4.block (Below.heap_alloc _ (.cells #[.int .i64 t.kind, .int .i64 t.num, .string t.name, .slice p0 t.args.length q0, .slice an nn cn] 69) w.heap.size (h4.lt (by simp)))
      obtain ⟨z0, _⟩ := h5.get 0 rfl
      obtain ⟨z1, _⟩ := h5.get 1 rfl
      obtain ⟨z2, _⟩ := h5.get 2 rfl
      obtain ⟨z3, _⟩ := h5.get 3 rfl
      clear h5 h4 x0 x1 x2 x3 f0 f1 f2 f3
      simp [results, Try.results34, go_sem, z0, z1, z2, z3]
      try rfl
    · refine ⟨t, p0, q0, rfl, HT.out.mono fun b hb hp => ?_, HF.out, ?_⟩
      · have hp' : w.heap.size + 1 ≤ b := by simpa using hp
        refine ⟨by omega, ?_⟩
        rw [Below.heap_alloc _ _ b (by simpa using hb), heap_set4 _ _ _ _ _ _ (by omega)]
      · have hb1 := B1.out
        simp only [World.size_alloc] at hb1
        exact (box_set4 w _ hb1).alloc (by simp; omega) _
  · have hxb : (x == 0) = false := by simpa using hx
    clear HO hx
    go_wp2
    refine bodyPost_ret (v := .agg #[.int .i64 2, .int .i64 1, .string ⟨#[]⟩, .slice none 0 0]) ?_ rfl ?_
    · have h4 := (((HBX.out.set 0 (by simp) (.int .i64 2)).set 1 (by simp) (.int .i64 1)).set 2 (by simp) (.string ⟨#[]⟩)).set 3 (by simp) (.slice none 0 0)
      have h5 := h4.block (Below.heap_alloc _ (.cells #[.int .i64 t.kind, .int .i64 t.num, .string t.name, .slice p0 t.args.length q0, .slice an nn cn] 69) w.heap.size (h4.lt (by simp)))
      obtain ⟨z0, _⟩ := h5.get 0 rfl
      obtain ⟨z1, _⟩ := h5.get 1 rfl
      obtain ⟨z2, _⟩ := h5.get 2 rfl
      obtain ⟨z3, _⟩ := h5.get 3 rfl
      clear h5 h4 x0 x1 x2 x3 f0 f1 f2 f3
      simp [results, Try.results34, go_sem, z0, z1, z2, z3]
      try rfl
    · refine ⟨.int 1, none, 0, rfl, .leaf rfl, F1, ?_⟩
      have hb1 := B1.out
      simp only [World.size_alloc] at hb1
      exact (box_set4 w _ hb1).alloc (by simp; omega) _
end Go.Proofs.Ytmffobadnmkpbaa
