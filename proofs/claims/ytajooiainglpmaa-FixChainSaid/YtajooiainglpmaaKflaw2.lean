/-
  FixChain, walked.
-/
import Derived.Test.YtajooiainglpmaaKflaw1
import Derived.Test.YtajooiainglpmaaKlin2
namespace Go.Proofs.Ytajooiainglpmaa
open Go.RowKit

theorem Try.infoPropC : (Try.prog.info? 34).map (fun i => (i.zero, i.size, i.bytes)) = some (some (.agg #[.int .i64 0, .slice none 0 0, .slice none 0 0, .int .i64 0, .int .i64 0, .int .i64 0, .int .i64 0, .int .i64 0, .slice none 0 0]), 9, 120) := by kernel_rfl
/-- a constraint with where its lists lie -/
structure PW where
  p : PL
  va : Value
  vb : Value
  vv : Value
def PW.cells (q : PW) : List Value := [.int .i64 q.p.kind, q.va, q.vb, .int .i64 q.p.rel, .int .i64 q.p.c, .int .i64 q.p.x, .int .i64 q.p.y, .int .i64 q.p.z, q.vv]
theorem flat_atW : ∀ (qs : List PW) (j r : Nat) (hj : j < qs.length), r < 9 → (qs.flatMap PW.cells)[j * 9 + r]? = qs[j].cells[r]?
  | q :: qs, 0, r, _, hr => by
    rw [List.flatMap_cons, Nat.zero_mul, Nat.zero_add, List.getElem?_append_left (by simpa [PW.cells] using hr)]; rfl
  | q :: qs, j + 1, r, hj, hr => by
    have hl : q.cells.length = 9 := rfl
    rw [List.flatMap_cons, List.getElem?_append_right (by rw [hl]; omega), hl, show (j + 1) * 9 + r - 9 = j * 9 + r by omega, flat_atW qs j r (by simpa using hj) hr]
    rfl
theorem psrow_at {W : World} {B : Nat} {v : Value} {qs : List PW} (ow : W.ownsRow B 34 9 v qs.length (qs.flatMap PW.cells)) (hq : ∀ q ∈ qs, IsAt W q.va q.p.coef ∧ IsAt W q.vb q.p.vars ∧ IsAt W q.vv q.p.vs) : PsAt W v (qs.map PW.p) := by
  obtain ⟨_, ao, cap, rfl, h2, h3, _, h4⟩ := SlAt.of_own ow
  refine ⟨ao, cap, by simp, by simpa using h2, h3, fun hp => ?_⟩
  have hp' : 0 < qs.length := by simpa using hp
  obtain ⟨b, off, rfl, hl, hc⟩ := h4 (by omega)
  refine ⟨b, off, rfl, hl, fun j hj => ?_⟩
  have hj' : j < qs.length := by simpa using hj
  have hcell : ∀ r, r < 9 → W.cell? ⟨b, off + (j * 9 + r), none⟩ = qs[j].cells[r]? := fun r hr => by
    rw [hc (j * 9 + r) (by omega), flat_atW qs j r hj' hr]
  obtain ⟨i0, i1, i2⟩ := hq qs[j] (List.getElem_mem hj')
  have e : (qs.map PW.p)[j] = qs[j].p := by simp
  rw [e]
  exact ⟨qs[j].va, qs[j].vb, qs[j].vv, ⟨hcell 0 (by decide), hcell 1 (by decide), hcell 2 (by decide), hcell 3 (by decide), hcell 4 (by decide), hcell 5 (by decide), hcell 6 (by decide), hcell 7 (by decide), hcell 8 (by decide)⟩, i0, i1, i2⟩
theorem ones9W {a b c d e f g h i : Value} (h0 : a.oneCell' = true) (h1 : b.oneCell' = true) (h2 : c.oneCell' = true) (h3 : d.oneCell' = true) (h4 : e.oneCell' = true) (h5 : f.oneCell' = true) (h6 : g.oneCell' = true) (h7 : h.oneCell' = true) (h8 : i.oneCell' = true) : ∀ u ∈ (#[a, b, c, d, e, f, g, h, i] : Array Value).toList, u.oneCell' = true := by
  intro u hu
  simp at hu
  rcases hu with rfl | rfl | rfl | rfl | rfl | rfl | rfl | rfl | rfl <;> assumption
/-- append of one struct, telling which blocks stay -/
theorem wpList_append9 {P : Program} {ops : Array Oper} {rest : List Oper} {o : Oper} {a : Act} {w : World} {Q : Exit → Act → World → Prop} (hgd : o.guard = none) (s x : Operand) (t : TypeId)
    (ho : o.op = .call { callee := .builtin .append, args := #[s, x], argTypes := #[t, t] })
    (base : Nat) (e : TypeId) (i : TypeInfo) (z : Value) (bytes : Nat) (ht : P.underlying t = some (.slice e)) (hi : P.info? e = some i) (hz : i.zero = some z)
    (hsize : i.size = 9) (hby : i.bytes = bytes) (hzs : z.cells.size = 9)
    (v : Value) (n : Nat) (xs : List Value) (hs : a.eval s = v) (hown : w.ownsRow base e 9 v n xs) {e' : TypeId}
    (us : Array Value) (hx : a.eval x = .slice (some ⟨w.heap.size, 0, none⟩) 1 1) (hus : us.size = 9) (h1 : ∀ u ∈ us.toList, u.oneCell' = true)
    (hbytes : (n + 1) * bytes ≤ 140737488355328 ∧ n + 1 ≤ 140737488355328) (hbase : base ≤ w.heap.size)
    (h : ∀ g cap w', w'.ownsRow base e 9 (.slice (some ⟨g, 0, none⟩) (n + 1) cap) (n + 1) (xs ++ us.toList) → Below base w w' → KeepsBut w w' v → (v.ownBlock = some g ∨ w.heap.size ≤ g) → wpList P ops Q rest (a.put o.dst (.slice (some ⟨g, 0, none⟩) (n + 1) cap)) w') :
    wpList P ops Q (o :: rest) a (w.alloc (.cells us e')) := by
  refine wpList_append_lies _ hgd s x t ho base e i z 9 bytes ht hi hz hsize hby hzs (by decide) v n xs hs (hown.alloc _) ⟨w.heap.size, 0, none⟩ 1 1 us.toList hx (by simp [hus]) ?_ h1 (by decide) ?_ hbytes.1 (by simp; omega) _ rfl ?_
  · intro j y hj
    have hadd : ((⟨w.heap.size, 0, none⟩ : Addr).add j) = ⟨w.heap.size, 0 + j, none⟩ := Go.WideShapes.add_plain _ _ _
    rw [hadd]
    simpa using hj
  · unfold maxLen; omega
  · intro g cap w' r1 r2 r3 _
    refine h g cap w' r1 (below_grown hbase r2 (ownBlock_ge hown)) (fun b hb hne => ?_) ?_
    · rw [r2.block b (by simp; omega) (fun he => hne he.symm)]
      exact Below.heap_alloc w _ b hb
    · rcases r3 with h3 | h3
      · exact .inl h3
      · right; rw [h3]; simp
theorem apart_farW {x v : Value} {N g n c : Nat} (h : Apart x v) (hx : ∀ b, x.ownBlock = some b → b < N) (hg : v.ownBlock = some g ∨ N ≤ g) : Apart x (.slice (some ⟨g, 0, none⟩) n c) := fun b hb he => by
  have hb' : g = b := by simpa [Value.ownBlock] using he
  subst hb'
  rcases hg with h1 | h1
  · exact h g hb h1
  · have := hx g hb; omega
theorem chainPs_succ {i : Nat} (hi : 0 < i) : chainPs (i + 1) = chainPs i ++ [linkPL (i - 1)] := by
  unfold chainPs
  rw [show i + 1 - 1 = (i - 1) + 1 by omega, List.range_succ, List.map_append]; rfl
/-- a list of the call's own, apart from two rows -/
structure Lone (W : World) (v : Value) (zs : List Int) (d p : Value) : Prop where
  at' : IsAt W v zs
  ad : Apart v d
  ap : Apart v p
  lt : ∀ b, v.ownBlock = some b → b < W.heap.size
/-- a chain in the making: the sets and the constraints -/
structure ChainSt (W : World) (B : Nat) (dv pv : Value) (i : Nat) (t : Int) (us : List Value) (qs : List PW) : Prop where
  app : DsApp W B dv (List.replicate i [(0, t)]) us
  own : W.ownsRow B 34 9 pv qs.length (qs.flatMap PW.cells)
  ps : qs.map PW.p = chainPs i
  ap : Apart dv pv
  aps : ∀ j, j < i → ∃ u, us[j]? = some u ∧ Apart u pv
  qi : ∀ q ∈ qs, Lone W q.va q.p.coef dv pv ∧ Lone W q.vb q.p.vars dv pv ∧ q.vv = .slice none 0 0 ∧ q.p.vs = []
  B : B ≤ W.heap.size
theorem Lone.below {W W' : World} {v d p : Value} {zs : List Int} (h : Lone W v zs d p) (hb : Below W.heap.size W W') : Lone W' v zs d p := ⟨h.at'.below hb, h.ad, h.ap, fun b e => Nat.lt_of_lt_of_le (h.lt b e) hb.size⟩
theorem Lone.movedD {W W' : World} {v d p : Value} {zs : List Int} (h : Lone W v zs d p) (hs : W.heap.size ≤ W'.heap.size) (hk : KeepsBut W W' d) {g n c : Nat} (hg : d.ownBlock = some g ∨ W.heap.size ≤ g) : Lone W' v zs (.slice (some ⟨g, 0, none⟩) n c) p :=
  ⟨SlAt.ownB h.at' hs (fun b hb e => hk b hb (fun e' => h.ad b e e')), apart_farW h.ad h.lt hg, h.ap, fun b e => Nat.lt_of_lt_of_le (h.lt b e) hs⟩
theorem Lone.movedP {W W' : World} {v d p : Value} {zs : List Int} (h : Lone W v zs d p) (hs : W.heap.size ≤ W'.heap.size) (hk : KeepsBut W W' p) {g n c : Nat} (hg : p.ownBlock = some g ∨ W.heap.size ≤ g) : Lone W' v zs d (.slice (some ⟨g, 0, none⟩) n c) :=
  ⟨SlAt.ownB h.at' hs (fun b hb e => hk b hb (fun e' => h.ap b e e')), h.ad, apart_farW h.ap h.lt hg, fun b e => Nat.lt_of_lt_of_le (h.lt b e) hs⟩
/-- a set more -/
theorem ChainSt.dom {W W1 : World} {B : Nat} {dv pv : Value} {i : Nat} {t : Int} {us : List Value} {qs : List PW} (h : ChainSt W B dv pv i t us qs) {g c : Nat} {T : TypeId}
    (ow : W1.ownsRow B 25 1 (.slice (some ⟨g, 0, none⟩) (i + 1) c) (i + 1) (us ++ [.slice (some ⟨W.heap.size, 0, none⟩) 1 1])) (bw : Below B (W.alloc (.cells #[.int .i64 0, .int .i64 t] T)) W1) (kw : KeepsBut (W.alloc (.cells #[.int .i64 0, .int .i64 t] T)) W1 dv) (gw : dv.ownBlock = some g ∨ (W.alloc (.cells #[.int .i64 0, .int .i64 t] T)).heap.size ≤ g) :
    DsApp W1 B (.slice (some ⟨g, 0, none⟩) (i + 1) c) (List.replicate (i + 1) [(0, t)]) (us ++ [.slice (some ⟨W.heap.size, 0, none⟩) 1 1]) ∧ W1.ownsRow B 34 9 pv qs.length (qs.flatMap PW.cells) ∧ Apart (.slice (some ⟨g, 0, none⟩) (i + 1) c) pv ∧ (∀ j, j < i + 1 → ∃ u, (us ++ [.slice (some ⟨W.heap.size, 0, none⟩) 1 1])[j]? = some u ∧ Apart u pv) ∧ (∀ q ∈ qs, Lone W1 q.va q.p.coef (.slice (some ⟨g, 0, none⟩) (i + 1) c) pv ∧ Lone W1 q.vb q.p.vars (.slice (some ⟨g, 0, none⟩) (i + 1) c) pv ∧ q.vv = .slice none 0 0 ∧ q.p.vs = []) ∧ B ≤ W1.heap.size := by
  have hz : Below W.heap.size W (W.alloc (.cells #[.int .i64 0, .int .i64 t] T)) := (Below.refl _ _).alloc (Nat.le_refl _) _
  have hB := h.B
  have hnew : ∀ v : Value, (∀ b, v.ownBlock = some b → b < W.heap.size) → Apart (.slice (some ⟨W.heap.size, 0, none⟩) 1 1) v := fun v hv b hb he => by
    have h1 : W.heap.size = b := by simpa [Value.ownBlock] using hb
    have := hv b he; omega
  have hr : RgAt (W.alloc (.cells #[.int .i64 0, .int .i64 t] T)) (.slice (some ⟨W.heap.size, 0, none⟩) 1 1) [(0, t)] := by
    refine ⟨rfl, some ⟨W.heap.size, 0, none⟩, 1, rfl, Nat.le_refl _, by decide, (fun h => by cases h), fun _ => ⟨W.heap.size, 0, rfl, by simp, fun j hj => ?_⟩⟩
    have hj' : j < 2 := hj
    rcases (show j = 0 ∨ j = 1 by omega) with rfl | rfl
    · simp; rfl
    · simp; rfl
  have hdv : ∀ b, dv.ownBlock = some b → b < W.heap.size := fun b hb => (h.app.2.1.lt b hb).2
  have hpv : ∀ b, pv.ownBlock = some b → b < W.heap.size := fun b hb => (h.own.lt b hb).2
  have hs1 : (W.alloc (.cells #[.int .i64 0, .int .i64 t] T)).heap.size = W.heap.size + 1 := by simp
  have hlr : (List.replicate i [((0 : Int), t)]).length = i := by simp
  have hul : us.length = i := by have := h.app.1; rwa [hlr] at this
  have app1 := (h.app.below hz).push hr (fun _ => hnew dv hdv) (g := g) (cap := c) (by rw [hlr]; exact ow) kw gw
  rw [hlr, ← List.replicate_succ'] at app1
  refine ⟨app1, own_kept (own_below h.own hz) kw h.ap.symm, ?_, fun j hj => ?_, fun q hq => ?_, ?_⟩
  · exact (apart_farW h.ap.symm hpv (gw.imp id (fun h1 => by omega))).symm
  · by_cases hjl : j < i
    · obtain ⟨u', e', c'⟩ := h.aps j hjl
      exact ⟨u', by rw [List.getElem?_append_left (by rw [hul]; exact hjl)]; exact e', c'⟩
    · obtain rfl : j = i := by omega
      exact ⟨.slice (some ⟨W.heap.size, 0, none⟩) 1 1, by rw [List.getElem?_append_right (by rw [hul]; exact Nat.le_refl _), hul]; simp, hnew _ hpv⟩
  · obtain ⟨a, b, c', d⟩ := h.qi q hq
    exact ⟨(a.below hz).movedD bw.size kw gw, (b.below hz).movedD bw.size kw gw, c', d⟩
  · have := bw.size
    omega
/-- a constraint more -/
theorem chain_prop {W W1 : World} {B : Nat} {dv pv : Value} {i : Nat} {t : Int} {us : List Value} {qs : List PW} (hi : 0 < i)
    (happ : DsApp W B dv (List.replicate (i + 1) [(0, t)]) us) (hown : W.ownsRow B 34 9 pv qs.length (qs.flatMap PW.cells)) (hps : qs.map PW.p = chainPs i) (hap : Apart dv pv) (haps : ∀ j, j < i + 1 → ∃ u, us[j]? = some u ∧ Apart u pv)
    (hqi : ∀ q ∈ qs, Lone W q.va q.p.coef dv pv ∧ Lone W q.vb q.p.vars dv pv ∧ q.vv = .slice none 0 0 ∧ q.p.vs = []) (hB : B ≤ W.heap.size) {g c : Nat} {T1 T2 : TypeId}
    (ow : W1.ownsRow B 34 9 (.slice (some ⟨g, 0, none⟩) (qs.length + 1) c) (qs.length + 1) (qs.flatMap PW.cells ++ [.int .i64 1, .slice (some ⟨W.heap.size, 0, none⟩) 2 2, .slice (some ⟨W.heap.size + 1, 0, none⟩) 2 2, .int .i64 3, .int .i64 (-1), .int .i64 0, .int .i64 0, .int .i64 0, .slice none 0 0]))
    (bw : Below B ((W.alloc (.cells #[.int .i64 1, .int .i64 (-1)] T1)).alloc (.cells #[.int .i64 ((i : Int) - 1), .int .i64 i] T2)) W1) (kw : KeepsBut ((W.alloc (.cells #[.int .i64 1, .int .i64 (-1)] T1)).alloc (.cells #[.int .i64 ((i : Int) - 1), .int .i64 i] T2)) W1 pv) (gw : pv.ownBlock = some g ∨ ((W.alloc (.cells #[.int .i64 1, .int .i64 (-1)] T1)).alloc (.cells #[.int .i64 ((i : Int) - 1), .int .i64 i] T2)).heap.size ≤ g) :
    ChainSt W1 B dv (.slice (some ⟨g, 0, none⟩) (qs.length + 1) c) (i + 1) t us (qs ++ [⟨linkPL (i - 1), .slice (some ⟨W.heap.size, 0, none⟩) 2 2, .slice (some ⟨W.heap.size + 1, 0, none⟩) 2 2, .slice none 0 0⟩]) := by
  have hz1 : Below W.heap.size W (W.alloc (.cells #[.int .i64 1, .int .i64 (-1)] T1)) := (Below.refl _ _).alloc (Nat.le_refl _) _
  have hs1 : (W.alloc (.cells #[.int .i64 1, .int .i64 (-1)] T1)).heap.size = W.heap.size + 1 := by simp
  have hz : Below W.heap.size W ((W.alloc (.cells #[.int .i64 1, .int .i64 (-1)] T1)).alloc (.cells #[.int .i64 ((i : Int) - 1), .int .i64 i] T2)) := hz1.alloc (by omega) _
  have B1 := BoxL.mk' W #[.int .i64 1, .int .i64 (-1)] T1
  have B2 := BoxL.mk' (W.alloc (.cells #[.int .i64 1, .int .i64 (-1)] T1)) #[.int .i64 ((i : Int) - 1), .int .i64 i] T2
  rw [hs1] at B2
  have hz2 : Below (W.heap.size + 1) (W.alloc (.cells #[.int .i64 1, .int .i64 (-1)] T1)) ((W.alloc (.cells #[.int .i64 1, .int .i64 (-1)] T1)).alloc (.cells #[.int .i64 ((i : Int) - 1), .int .i64 i] T2)) := (Below.refl _ _).alloc (by omega) _
  have B1' := B1.below hz2 (Nat.lt_succ_self _)
  have hs2 : ((W.alloc (.cells #[.int .i64 1, .int .i64 (-1)] T1)).alloc (.cells #[.int .i64 ((i : Int) - 1), .int .i64 i] T2)).heap.size = W.heap.size + 2 := by simp
  generalize (W.alloc (.cells #[.int .i64 1, .int .i64 (-1)] T1)).alloc (.cells #[.int .i64 ((i : Int) - 1), .int .i64 i] T2) = W2 at *
  have hdv : ∀ b, dv.ownBlock = some b → b < W.heap.size := fun b hb => (happ.2.1.lt b hb).2
  have hpv : ∀ b, pv.ownBlock = some b → b < W.heap.size := fun b hb => (hown.lt b hb).2
  have hnew : ∀ (N : Nat) (v : Value), W.heap.size ≤ N → (∀ b, v.ownBlock = some b → b < W.heap.size) → Apart (.slice (some ⟨N, 0, none⟩) 2 2) v := fun N v hN hv b hb he => by
    have h1 : N = b := by simpa [Value.ownBlock] using hb
    have := hv b he; omega
  have hints : ∀ (N : Nat) (x y : Int), BoxL W2 N [.int .i64 x, .int .i64 y] → IsAt W2 (.slice (some ⟨N, 0, none⟩) 2 2) [x, y] := fun N x y hb => by
    refine ⟨rfl, some ⟨N, 0, none⟩, 2, rfl, Nat.le_refl _, by decide, (fun h => by cases h), fun _ => ⟨N, 0, rfl, hb.lt (by simp), fun j hj => ?_⟩⟩
    have hj' : j < 2 := hj
    rcases (show j = 0 ∨ j = 1 by omega) with rfl | rfl
    · exact (hb.get 0 rfl).1
    · exact (hb.get 1 rfl).1
  have l1 : Lone W2 (.slice (some ⟨W.heap.size, 0, none⟩) 2 2) (linkPL (i - 1)).coef dv pv := ⟨hints _ _ _ B1', hnew _ _ (Nat.le_refl _) hdv, hnew _ _ (Nat.le_refl _) hpv, fun b hb => by
    have h1 : W.heap.size = b := by simpa [Value.ownBlock] using hb
    omega⟩
  have hvars : (linkPL (i - 1)).vars = [(i : Int) - 1, (i : Int)] := by
    show [((i - 1 : Nat) : Int), ((i - 1 + 1 : Nat) : Int)] = _
    rw [show i - 1 + 1 = i by omega, show ((i - 1 : Nat) : Int) = (i : Int) - 1 by omega]
  have l2 : Lone W2 (.slice (some ⟨W.heap.size + 1, 0, none⟩) 2 2) (linkPL (i - 1)).vars dv pv := ⟨by rw [hvars]; exact hints _ _ _ B2, hnew _ _ (Nat.le_succ _) hdv, hnew _ _ (Nat.le_succ _) hpv, fun b hb => by
    have h1 : W.heap.size + 1 = b := by simpa [Value.ownBlock] using hb
    omega⟩
  have hb2 := happ.below hz
  refine ⟨⟨happ.1, own_kept hb2.2.1 kw hap, fun j hj => ?_⟩, ?_, ?_, ?_, fun j hj => ?_, fun q hq => ?_, ?_⟩
  · obtain ⟨u, e, r, c'⟩ := hb2.2.2 j hj
    obtain ⟨u', e', c''⟩ := haps j (by simpa using hj)
    rw [e] at e'; cases e'
    exact ⟨u, e, r.keptBut kw (fun _ => c''), c'⟩
  · rw [List.length_append, List.length_singleton, List.flatMap_append]
    exact ow
  · rw [List.map_append, hps, chainPs_succ hi]; rfl
  · exact apart_farW hap hdv (gw.imp id (fun h1 => by omega))
  · obtain ⟨u, e, c'⟩ := haps j hj
    obtain ⟨u', e', r, _⟩ := happ.2.2 j (by simpa using hj)
    rw [e] at e'; cases e'
    refine ⟨u, e, apart_farW c' (r.blk (by rw [List.getElem_replicate]; simp)) (gw.imp id (fun h1 => by omega))⟩
  · rcases List.mem_append.1 hq with h1 | h1
    · obtain ⟨a, b, c', d⟩ := hqi q h1
      exact ⟨(a.below hz).movedP bw.size kw gw, (b.below hz).movedP bw.size kw gw, c', d⟩
    · rw [List.mem_singleton.1 h1]
      exact ⟨l1.movedP bw.size kw gw, l2.movedP bw.size kw gw, rfl, rfl⟩
  · have := bw.size; omega
theorem link_fine {n i : Nat} {ds : Ds} (h : i + 1 < n) (hl : ds.length = n) (hd : ∀ d ∈ ds, d.length ≤ 4096) : (linkPL i).Fine ds :=
  ⟨.inl rfl, fun _ => ⟨⟨rfl, by simp [linkPL], fun c hc => by simp [linkPL] at hc; rcases hc with rfl | rfl <;> decide, fun v hv => by
    simp [linkPL] at hv
    rcases hv with rfl | rfl <;> omega, hd⟩, .inr (.inr rfl), by simp [linkPL], fun z hz => by simp [linkPL] at hz; rcases hz with rfl | rfl <;> decide, by simp [linkPL]; omega⟩, (fun h => by cases h), fun v hv => by rw [hl]; exact (link_good h).vars v hv⟩
theorem chain_fixIn {n : Nat} {t : Int} (hn : 1 ≤ n ∧ n ≤ 8) : FixIn (List.replicate n [(0, t)]) (chainPs n) :=
  ⟨fun p hp => by
    obtain ⟨i, hi, rfl⟩ := List.mem_map.1 hp
    have : i < n - 1 := by simpa using hi
    exact link_fine (n := n) (by omega) (by simp) (fun d hd => by rw [List.eq_of_mem_replicate hd]; simp), fun p hp => by
    obtain ⟨i, hi, rfl⟩ := List.mem_map.1 hp
    exact ⟨by simp [linkPL], by simp [linkPL], by simp [linkPL]⟩, by simp; omega, fun d hd => by rw [List.eq_of_mem_replicate hd]; simp, by simp [chainPs]; omega⟩
theorem RetO.none3 {w w' : World} {e : Ending} (h : RetO none w e w') : e = .returned (.tuple #[.slice none 0 0, .bool false]) ∧ Below w.heap.size w w' := by
  obtain ⟨hb, ⟨_, _, _, h1, _⟩ | ⟨_, h1⟩⟩ := h
  · cases h1
  · exact ⟨h1, hb⟩
theorem RetO.some3 {w w' : World} {e : Ending} {r : Ds} {n : Nat} (h : RetO (some r) w e w') (hl : r.length = n) : ∃ ao cap, e = .returned (.tuple #[.slice ao n cap, .bool true]) ∧ DsAt w' (.slice ao n cap) r ∧ Below w.heap.size w w' := by
  obtain ⟨hb, ⟨_, ao, cap, h1, h2, h3⟩ | ⟨h1, _⟩⟩ := h
  · have h1 := Option.some.inj h1
    subst h1
    rw [hl] at h2 h3
    exact ⟨ao, cap, h2, h3, hb⟩
  · cases h1
set_option maxRecDepth 100000 in
set_option maxHeartbeats 6400000 in
theorem fixChain_any (z0 z1 : Int) (w : World) (h0 : 0 ≤ z0 ∧ z0 ≤ 255) (h1 : 0 ≤ z1 ∧ z1 ≤ 255) :
    Calls Try.prog 6 #[.int .u8 z0, .int .u8 z1] w fun e w' => e = .returned (.bool true) ∧ Below w.heap.size w w' := by
  obtain ⟨i0, hi, hz0, hz1, hz2⟩ := info_parts Try.infoPropC
  obtain ⟨i5, ki, kz0, kz1, kz2⟩ := info_parts Try.infoRgs
  obtain ⟨m0, m1⟩ : 0 ≤ z0 % 8 ∧ z0 % 8 < 8 := ⟨Int.emod_nonneg _ (by decide), Int.emod_lt_of_pos _ (by decide)⟩
  obtain ⟨t1, t2⟩ : 0 ≤ z1.tmod 30 ∧ z1.tmod 30 < 30 := ⟨Int.tmod_nonneg _ h1.1, Int.tmod_lt_of_pos z1 (by decide)⟩
  have ht : Hid (0 ≤ z1.tmod 30 ∧ z1.tmod 30 < 30) := ⟨t1, t2⟩
  obtain ⟨n, hn⟩ : ∃ n : Nat, 1 + z0 % 8 = (n : Int) := Int.eq_ofNat_of_zero_le (by omega)
  have HN := Lib.hid hn
  have hnb : 1 ≤ n ∧ n ≤ 8 := by omega
  generalize hq1 : z1.tmod 30 = t at *
  clear hn
  go_enter Try.func6, Try.ntmps6
  go_wp2
  rw [HN.out]
  clear m0 m1 hq1
  obtain ⟨hn1, hn8⟩ := hnb
  go_loopw [7, 8, 9] (fun o1 o2 s wr => ∃ (i : Nat) (us : List Value) (qs : List PW), i ≤ n ∧ s = .int .i64 i ∧ Hid (ChainSt wr w.heap.size o1 o2 i t us qs) ∧ Hid (Below w.heap.size w wr)) (fun _ _ s _ => n - (intOf s).toNat)
  case atStart =>
    have hb : Below w.heap.size w ((w.alloc (.cells #[] 25)).alloc (.cells #[] 34)) := ((Below.refl _ _).alloc (Nat.le_refl _) _).alloc (by simp) _
    have h2 := World.ownsRow_lit (base := w.heap.size) (w.alloc (.cells #[] 25)) #[] 0 (e := 34) (size := 9) (by simp) (by decide) rfl
    rw [show (w.alloc (.cells #[] 25)).heap.size = w.heap.size + 1 by simp] at h2
    refine ⟨0, [], [], by omega, rfl, Lib.hid ⟨DsApp.nil (own_below (World.ownsRow_made w #[] 0 (Nat.le_refl _) (by decide) rfl) ((Below.refl _ _).alloc (Nat.le_refl _) _)), h2, rfl, fun b hb he => by simp [Value.ownBlock] at hb he; omega, fun j hj => absurd hj (Nat.not_lt_zero _), fun q hq => by simp at hq, by simp; omega⟩, Lib.hid hb⟩
  case round =>
    obtain ⟨i, us, qs, hin, rfl, HS, HBw⟩ := hrel
    have hB := HS.out.B
    have hql : qs.length ≤ 8 := by have := congrArg List.length HS.out.ps; simp [chainPs] at this; omega
    have hul : us.length = i := by have := HS.out.app.1; simpa using this
    have hsz := HBw.out.size
    by_cases hlt : i < n
    · have j1 : (i : Int) < n := by omega
      have HA : Hid (wr.ownsRow w.heap.size 25 1 u7 i us) := by
        have h := HS.out.app.2.1
        rw [List.length_replicate] at h
        exact h
      have HDO := Lib.hid (own_below HA.out ((Below.refl _ _).alloc (Nat.le_refl _) (.cells #[.int .i64 0, .int .i64 t] 28)))
      clear hul
      by_cases hi0 : i = 0
      · have hg0 : ¬ (0 : Int) < i := by omega
        have HI0 := Lib.hid hi0
        have HQ0 : Hid (qs.map PW.p = chainPs (i + 1)) := by
          have h := HS.out.ps
          rw [hi0] at h ⊢
          exact h
        clear hi0
        go_wp2_with (at_builtin; refine wpList_append1L rfl (.tmp 27) (.tmp 31) 23 rfl w.heap.size 25 i5 (.slice none 0 0) 24 Try.underlying23 ki kz0 kz1 kz2 rfl _ _ _ rfl HDO.out _ (by first | rfl | (show Value.slice _ _ _ = _; simp)) rfl (by omega) (Nat.le_trans hB (by simp)) ?_; intro g4 cap4 w4 ow4 bw4 kw4 gw4)
        have SD := HS.out.dom ow4 bw4 kw4 gw4
        exact ⟨⟨i + 1, us ++ [.slice (some ⟨wr.heap.size, 0, none⟩) 1 1], qs, by omega, by go_num, Lib.hid ⟨SD.1, SD.2.1, HQ0.out, SD.2.2.1, SD.2.2.2.1, SD.2.2.2.2.1, SD.2.2.2.2.2⟩, Lib.hid (HBw.out.trans (((Below.refl _ _).alloc hB _).trans bw4))⟩, by simp [intOf]; omega⟩
      · have hg0 : (0 : Int) < i := by omega
        have hip : 0 < i := by omega
        have HPS := Lib.hid HS.out.ps
        clear hi0
        go_wp2_with (first
          | (at_builtin; refine wpList_append1L rfl (.tmp 27) (.tmp 31) 23 rfl w.heap.size 25 i5 (.slice none 0 0) 24 Try.underlying23 ki kz0 kz1 kz2 rfl _ _ _ rfl HDO.out _ (by first | rfl | (show Value.slice _ _ _ = _; simp)) rfl (by omega) (Nat.le_trans hB (by simp)) ?_; intro g4 cap4 w4 ow4 bw4 kw4 gw4; have SD := Lib.hid (HS.out.dom ow4 bw4 kw4 gw4); have B4 := Lib.hid (HBw.out.trans (((Below.refl _ _).alloc hB _).trans bw4)); have hB4 := SD.out.2.2.2.2.2; have HPO := Lib.hid (own_below SD.out.2.1 (((Below.refl w4.heap.size w4).alloc (Nat.le_refl _) (.cells #[.int .i64 1, .int .i64 (-1)] 3)).alloc (by simp) (.cells #[.int .i64 ((i : Int) - 1), .int .i64 i] 3))); clear ow4 bw4 kw4 gw4)
          | (at_builtin; refine wpList_append9 rfl (.tmp 35) (.tmp 43) 50 rfl w.heap.size 34 i0 (.agg #[.int .i64 0, .slice none 0 0, .slice none 0 0, .int .i64 0, .int .i64 0, .int .i64 0, .int .i64 0, .int .i64 0, .slice none 0 0]) 120 Try.underlying50 hi hz0 hz1 hz2 rfl _ _ _ rfl HPO.out _ (by first | rfl | (show Value.slice _ _ _ = _; simp)) rfl (ones9W rfl rfl rfl rfl rfl rfl rfl rfl rfl) (by omega) (Nat.le_trans hB4 (by simp; omega)) ?_; intro g5 cap5 w5 ow5 bw5 kw5 gw5))
        have S5 := chain_prop hip SD.out.1 SD.out.2.1 HPS.out SD.out.2.2.1 SD.out.2.2.2.1 SD.out.2.2.2.2.1 hB4 ow5 bw5 kw5 gw5
        exact ⟨⟨i + 1, us ++ [.slice (some ⟨wr.heap.size, 0, none⟩) 1 1], qs ++ [⟨linkPL (i - 1), .slice (some ⟨w4.heap.size, 0, none⟩) 2 2, .slice (some ⟨w4.heap.size + 1, 0, none⟩) 2 2, .slice none 0 0⟩], by omega, by go_num, Lib.hid S5, Lib.hid (B4.out.trans ((((Below.refl w.heap.size w4).alloc hB4 (.cells #[.int .i64 1, .int .i64 (-1)] 3)).alloc (by simp; omega) (.cells #[.int .i64 ((i : Int) - 1), .int .i64 i] 3)).trans bw5))⟩, by simp [intOf]; omega⟩
    · obtain rfl : i = n := by omega
      have HDA : Hid (DsAt wr u7 (List.replicate i [(0, t)])) := HS.out.app.own.at
      obtain ⟨da, dc, hdv, _⟩ := HDA.out.shape
      rw [List.length_replicate] at hdv
      subst hdv
      have HPT : Hid (PsAt wr u8 (chainPs i)) := by
        have h := psrow_at HS.out.own (fun q hq => by
          obtain ⟨a, b, c, d⟩ := HS.out.qi q hq
          exact ⟨a.at', b.at', by rw [c, d]; exact SlAt.nil⟩)
        rw [HS.out.ps] at h
        exact h
      obtain ⟨pa, pc, hpv, _⟩ := HPT.out.shape
      subst hpv
      have hFI := chain_fixIn (n := i) (t := t) ⟨hn1, hn8⟩
      obtain ⟨R, hR⟩ := fixOf_exists (ps := chainPs i) (D := List.replicate i [(0, t)]) (fun p hp => (hFI.fine p hp).good)
      obtain ⟨hRn, hRs⟩ := chain_fix ⟨hn1, hn8⟩ ⟨ht.out.1, ht.out.2⟩ hR
      have CF0 : Calls Try.prog 17 #[.slice da i dc, .slice pa (chainPs i).length pc] wr (RetO R wr) := fix_r HDA.out HPT.out hFI hR
      clear HS hFI hR HDA HPT hB hql hul
      by_cases hw : t < (i : Int) - 1
      · obtain rfl := hRn hw
        have CF : Hid (Calls Try.prog 17 #[.slice da i dc, .slice pa (chainPs i).length pc] wr fun e W' => e = .returned (.tuple #[.slice none 0 0, .bool false]) ∧ Below wr.heap.size wr W') := CF0.mono fun e W' hh => hh.none3
        clear CF0 hRn hRs
        go_wp2_with (go_at_call 17; (with_reducible refine CF.out.mono ?_); rintro e W3 ⟨rfl, bb⟩; have B3 := Lib.hid (HBw.out.trans (bb.mono hsz)); clear bb)
        go_ret
        exact ⟨rfl, B3.out⟩
      · obtain rfl := hRs hw
        have hrl : ((List.range i).map fun k : Nat => [((k : Int), t - ((i : Int) - 1 - (k : Int)))]).length = i := by simp
        have CF : Hid (Calls Try.prog 17 #[.slice da i dc, .slice pa (chainPs i).length pc] wr fun e W' => ∃ ao cap, e = .returned (.tuple #[.slice ao i cap, .bool true]) ∧ DsAt W' (.slice ao i cap) ((List.range i).map fun k : Nat => [((k : Int), t - ((i : Int) - 1 - (k : Int)))]) ∧ Below wr.heap.size wr W') := CF0.mono fun e W' hh => hh.some3 hrl
        clear CF0 hRn hRs hrl
        go_wp2_with (go_at_call 17; (with_reducible refine CF.out.mono ?_); rintro e W3 ⟨a3, c3, rfl, d3, bb⟩; have D3 := Lib.hid d3; have B3 := Lib.hid (HBw.out.trans (bb.mono hsz)); clear bb d3)
        go_loopw [12] (fun s wr => ∃ k : Nat, k ≤ i ∧ s = .int .i64 k ∧ Hid (Below W3.heap.size W3 wr)) (fun s _ => i - (intOf s).toNat)
        case atStart => exact ⟨0, by omega, rfl, Lib.hid (Below.refl _ _)⟩
        case round =>
          obtain ⟨k, hk, rfl, HQ⟩ := hrel
          by_cases hlt : k < i
          · obtain ⟨b6, o6, a6', c6', rfl, q1, q2, hj1, hc1, hr1⟩ := D3.out.get k (by simp; omega)
            clear hj1
            rw [List.getElem_map, List.getElem_range] at hc1 hr1
            obtain ⟨b7, o7, c7, he7, _, q7, hc7⟩ := RgAt.at hr1 (Nat.succ_pos _)
            simp only [Value.slice.injEq, true_and] at he7
            obtain ⟨rfl, rfl⟩ := he7
            obtain ⟨y0, y1⟩ := hc7 0 (Nat.succ_pos _)
            have j2 : (k : Int) < i := by omega
            rw [← HQ.out.cell (p := ⟨b6, o6 + k, none⟩) q2] at hc1
            rw [← HQ.out.cell (p := ⟨b7, o7 + 0 * 2, none⟩) q7] at y0
            rw [← HQ.out.cell (p := ⟨b7, o7 + 0 * 2 + 1, none⟩) q7] at y1
            have hc1' : wr.cell? ⟨b6, o6 + k, none⟩ = some (.slice (some ⟨b7, o7, none⟩) 1 c6') := hc1
            have y0' : wr.cell? ⟨b7, o7, none⟩ = some (.int .i64 (k : Int)) := y0
            have y1' : wr.cell? ⟨b7, o7 + 1, none⟩ = some (.int .i64 (t - ((i : Int) - 1 - (k : Int)))) := y1
            clear hc1 y0 y1 hr1 hc7
            go_wp2
            exact ⟨⟨k + 1, by omega, by go_num, HQ⟩, by simp [intOf]; omega⟩
          · go_wp2
            go_ret
            exact ⟨rfl, B3.out.trans (HQ.out.mono B3.out.size)⟩
end Go.Proofs.Ytajooiainglpmaa
