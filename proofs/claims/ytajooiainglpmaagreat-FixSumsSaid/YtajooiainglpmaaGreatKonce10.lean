/-
  WHICH CONSTRAINTS NAME A VARIABLE: a list of rows of integers, each row of its own, grown by append.
  PLAIN LAWS of the walk through the constraints that wait: what is woken, what rests; no program.
  What stays while the queue is written: sets and lists in newer memory; append of one integer; the queue's start.
  THE STATE OF fix.Fix behind its start: the queue, its map, the uses; wait and next in it.
-/
import Derived.Test.YtajooiainglpmaaGreatKonce9
import Derived.Test.YtajooiainglpmaaGreatKonce8
import Derived.Test.YtajooiainglpmaaGreatKlib1
import Derived.Deep.AppendLies
namespace Go.Proofs.YtajooiainglpmaaGreat
open Go.RowKit

/-- block ub: n rows of integers, in blocks apart from one another -/
structure UsAt (w : World) (ub B n : Nat) (vals : Nat → Value) (us : Nat → List Int) : Prop where
  cell : ∀ v, v < n → w.cell? ⟨ub, v, none⟩ = some (vals v)
  fz : ∀ v, v < n → w.frozen? ⟨ub, v, none⟩ = false
  own : ∀ v, v < n → w.ownsRow B 3 1 (vals v) (us v).length ((us v).map (Value.int .i64))
  ap : ∀ u v b, u < n → v < n → u ≠ v → (vals u).ownBlock = some b → (vals v).ownBlock ≠ some b
  lu : ub < B
theorem own_lt {w : World} {B e size n : Nat} {v : Value} {xs : List Value} (h : w.ownsRow B e size v n xs) {b : Nat} (hb : v.ownBlock = some b) : b < w.heap.size ∧ B ≤ b := by
  rcases h.2 with ⟨rfl, _⟩ | ⟨g, cap, cur, rfl, hg, hgg, rest⟩
  · simp [Value.ownBlock] at hb
  · simp [Value.ownBlock] at hb
    subst hb
    exact ⟨(Array.getElem?_eq_some_iff.1 hgg).1, hg⟩
theorem own_block {w w' : World} {B e size n : Nat} {v : Value} {xs : List Value} (h : w.ownsRow B e size v n xs) (hb : ∀ b, v.ownBlock = some b → w'.heap[b]? = w.heap[b]?) : w'.ownsRow B e size v n xs := by
  refine ⟨h.1, ?_⟩
  rcases h.2 with hn | ⟨g, cap, cur, rfl, hg, hgg, rest⟩
  · exact .inl hn
  · exact .inr ⟨g, cap, cur, rfl, hg, by rw [hb g rfl]; exact hgg, rest⟩
theorem UsAt.frame {w w' : World} {ub B n : Nat} {vals : Nat → Value} {us : Nat → List Int} (h : UsAt w ub B n vals us) (hu : w'.heap[ub]? = w.heap[ub]?) (hb : ∀ v b, v < n → (vals v).ownBlock = some b → w'.heap[b]? = w.heap[b]?) : UsAt w' ub B n vals us :=
  ⟨fun v hv => (World.cell?_of_block (a := ⟨ub, v, none⟩) hu).trans (h.cell v hv), fun v hv => (World.frozen?_of_block (a := ⟨ub, v, none⟩) hu).trans (h.fz v hv), fun v hv => own_block (h.own v hv) (fun b => hb v b hv), h.ap, h.lu⟩
theorem UsAt.below {w w' : World} {ub B n : Nat} {vals : Nat → Value} {us : Nat → List Int} (h : UsAt w ub B n vals us) (hl : ub < w.heap.size) (hb : Below w.heap.size w w') : UsAt w' ub B n vals us :=
  h.frame (hb.block ub hl) (fun v b hv e => hb.block b (own_lt (h.own v hv) e).1)
/-- apart from the queue's row -/
def UsAp (n : Nat) (vals : Nat → Value) (pl : Value) : Prop := ∀ v b, v < n → (vals v).ownBlock = some b → pl.ownBlock ≠ some b
theorem UsAt.turn {w w' : World} {ub B n qb mb : Nat} {vals : Nat → Value} {us : Nat → List Int} {pl pl' : Value} (h : UsAt w ub B n vals us) (hl : ub < w.heap.size) (hs : QSm qb mb w pl w' pl') (hq : ub ≠ qb) (hm : ub ≠ mb) (hqB : qb < B) (hmB : mb < B) (hp : pl.ownBlock ≠ some ub) (ha : UsAp n vals pl) : UsAt w' ub B n vals us ∧ UsAp n vals pl' := by
  refine ⟨h.frame (hs.blk ub hl hq hm hp) (fun v b hv e => ?_), fun v b hv e e' => ?_⟩
  · have := own_lt (h.own v hv) e
    exact hs.blk b this.1 (by omega) (by omega) (ha v b hv e)
  · rcases hs.row b e' with h1 | h1
    · exact ha v b hv e h1
    · have := own_lt (h.own v hv) e
      omega
/-- row v grown by one, its new value stored -/
theorem UsAt.push {w w1 : World} {ub B n : Nat} {vals : Nat → Value} {us : Nat → List Int} (h : UsAt w ub B n vals us) (_hB : B ≤ w.heap.size) {v : Nat} (hv : v < n) {i : Int} {r : Value} {k : Nat} (hk : k = (us v).length + 1) (ow : w1.ownsRow B 3 1 r k ((us v ++ [i]).map (Value.int .i64))) (bw : Below B w w1)
    (kw : ∀ b, b < w.heap.size → (vals v).ownBlock ≠ some b → w1.heap[b]? = w.heap[b]?) (aw : ∀ b, r.ownBlock = some b → (vals v).ownBlock = some b ∨ w.heap.size ≤ b) :
    UsAt (w1.setCell ⟨ub, v, none⟩ r) ub B n (fun u => if u = v then r else vals u) (fun u => if u = v then us v ++ [i] else us u) where
  cell := fun u hu => by
    have hub := bw.block ub h.lu
    by_cases e : u = v
    · subst e
      rw [if_pos rfl]
      exact World.cell?_setCell_same _ _ _ ((World.cell?_of_block (a := ⟨ub, u, none⟩) hub).trans (h.cell u hu))
    · rw [if_neg e, World.cell?_setCell_other _ _ _ _ (fun he => e (by injection he with _ h2 _; exact h2.symm))]
      exact (World.cell?_of_block (a := ⟨ub, u, none⟩) hub).trans (h.cell u hu)
  fz := fun u hu => by
    rw [World.frozen?_setCell]
    exact (World.frozen?_of_block (a := ⟨ub, u, none⟩) (bw.block ub h.lu)).trans (h.fz u hu)
  own := fun u hu => by
    by_cases e : u = v
    · subst e
      rw [if_pos rfl, if_pos rfl, List.length_append, List.length_singleton, ← hk]
      exact own_setCell ow h.lu _
    · rw [if_neg e, if_neg e]
      exact own_setCell (own_block (h.own u hu) (fun b hb => kw b (own_lt (h.own u hu) hb).1 (h.ap u v b hu hv e hb))) h.lu _
  ap := fun u1 u2 b h1 h2 hne e => by
    by_cases e1 : u1 = v
    · rw [if_pos e1] at e
      have e2 : ¬ u2 = v := fun e2 => hne (e1.trans e2.symm)
      rw [if_neg e2]
      rcases aw b e with hb | hb
      · exact h.ap v u2 b hv h2 (fun e => e2 e.symm) hb
      · exact fun e' => by have := own_lt (h.own u2 h2) e'; omega
    · rw [if_neg e1] at e
      by_cases e2 : u2 = v
      · rw [if_pos e2]
        intro e'
        rcases aw b e' with hb | hb
        · exact h.ap u1 v b h1 hv (fun x => e1 x) e hb
        · have := own_lt (h.own u1 h1) e; omega
      · rw [if_neg e2]
        exact h.ap u1 u2 b h1 h2 hne e
  lu := h.lu
theorem UsAp.push {w : World} {ub B n : Nat} {vals : Nat → Value} {us : Nat → List Int} (_h : UsAt w ub B n vals us) {pl : Value} (hp : ∀ b, pl.ownBlock = some b → b < w.heap.size) (ha : UsAp n vals pl) {v : Nat} (hv : v < n) {r : Value} (aw : ∀ b, r.ownBlock = some b → (vals v).ownBlock = some b ∨ w.heap.size ≤ b) : UsAp n (fun u => if u = v then r else vals u) pl := by
  intro u b hu e e'
  dsimp only at e
  by_cases e1 : u = v
  · rw [if_pos e1] at e
    rcases aw b e with hb | hb
    · exact ha v b hv hb e'
    · have := hp b e'; omega
  · rw [if_neg e1] at e
    exact ha u b hu e e'
theorem QF.frame {w w' : World} {qb mb B : Nat} {pl vp : Value} {L : List Int} {n : Nat} (h : QF w qb mb B pl vp L n) (hq : w'.heap[qb]? = w.heap[qb]?) (hm : w'.heap[mb]? = w.heap[mb]?) (hp : ∀ b, pl.ownBlock = some b → w'.heap[b]? = w.heap[b]?) : QF w' qb mb B pl vp L n :=
  ⟨⟨(World.cell?_of_block (a := ⟨qb, 0, none⟩) hq).trans h.q.c0, (World.cell?_of_block (a := ⟨qb, 1, none⟩) hq).trans h.q.c1, (World.cell?_of_block (a := ⟨qb, 2, none⟩) hq).trans h.q.c2, (World.frozen?_of_block (a := ⟨qb, 0, none⟩) hq).trans h.q.f0, own_block h.q.own hp, h.q.lq, h.q.lm⟩, h.s.block hm, h.nd, h.ne⟩
theorem QF.below {w w' : World} {qb mb B : Nat} {pl vp : Value} {L : List Int} {n : Nat} (h : QF w qb mb B pl vp L n) (hb : Below w.heap.size w w') : QF w' qb mb B pl vp L n :=
  h.frame (hb.block qb h.q.lt) (hb.block mb h.s.lt) (fun b e => hb.block b (own_lt h.q.own e).1)
end Go.Proofs.YtajooiainglpmaaGreat
namespace Go.Proofs.YtajooiainglpmaaGreat

theorem mem_uniq {acc : List Int} {v x : Int} : x ∈ uniq acc v ↔ x ∈ acc ∨ x = v := by
  unfold uniq
  by_cases h : v ∈ acc
  · rw [if_pos (by simpa using h)]
    exact ⟨.inl, fun h' => h'.elim id (fun e => e ▸ h)⟩
  · rw [if_neg (by simpa using h)]; simp
theorem mem_uniqL {l : List Int} {x : Int} : x ∈ uniqL l ↔ x ∈ l := by
  suffices h : ∀ (l acc : List Int), x ∈ l.foldl uniq acc ↔ x ∈ acc ∨ x ∈ l by simpa [uniqL] using h l []
  intro l
  induction l with
  | nil => simp
  | cons v l ih => intro acc; rw [List.foldl_cons, ih, mem_uniq, List.mem_cons, or_assoc]
/-- places, each once -/
theorem len_places : ∀ (P : Nat) (L : List Int), L.Nodup → (∀ i ∈ L, 0 ≤ i ∧ i.toNat < P) → L.length ≤ P
  | 0, [], _, _ => Nat.le_refl _
  | 0, x :: L, _, h => by have := h x List.mem_cons_self; omega
  | P + 1, L, hn, h => by
    by_cases hm : (P : Int) ∈ L
    · have h1 := len_places P (L.erase P) (hn.erase _) (fun i hi => by
        have h2 := (hn.mem_erase_iff).1 hi
        have h3 := h i h2.2
        have : i ≠ P := h2.1
        omega)
      rw [List.length_erase_of_mem hm] at h1
      omega
    · have h1 := len_places P L hn (fun i hi => by
        have h3 := h i hi
        have : i ≠ P := fun e => hm (e ▸ hi)
        omega)
      omega
/-- the constraints that wait not say nothing new -/
def Rest (ps : List PL) (now : Ds) (L : List Int) : Prop := ∀ k, (hk : k < ps.length) → (k : Int) ∉ L → onceP ps[k] now = some now
/-- which of the first m constraints name a variable -/
structure UsOk (ps : List PL) (m : Nat) (us : Nat → List Int) : Prop where
  all : ∀ k, (hk : k < ps.length) → k < m → ∀ v ∈ ps[k].all, (k : Int) ∈ us v.toNat
  ins : ∀ v, InPs (us v) ps
/-- of the first t of the changed variables each constraint that names one waits -/
structure Woken (ps : List PL) (now d : Ds) (vs L1 L2 : List Int) (t : Nat) : Prop where
  ins : InPs L2 ps
  nd : L2.Nodup
  sub : ∀ k ∈ L1, k ∈ L2
  all : ∀ j, j < t → ∀ v, vs[j]? = some v → domOf d v ≠ domOf now v → ∀ k, (hk : k < ps.length) → v ∈ ps[k].all → (k : Int) ∈ L2
  same : (∀ j, j < t → ∀ v, vs[j]? = some v → domOf d v = domOf now v) → L2.length = L1.length
theorem Woken.start {ps : List PL} {now d : Ds} {vs L1 : List Int} (h : InPs L1 ps) (hn : L1.Nodup) : Woken ps now d vs L1 L1 0 := ⟨h, hn, fun _ h => h, fun _ hj => absurd hj (Nat.not_lt_zero _), fun _ => rfl⟩
theorem Woken.skip {ps : List PL} {now d : Ds} {vs L1 L2 : List Int} {t : Nat} {v : Int} (h : Woken ps now d vs L1 L2 t) (hv : vs[t]? = some v) (e : domOf d v = domOf now v) : Woken ps now d vs L1 L2 (t + 1) :=
  ⟨h.ins, h.nd, h.sub, fun j hj u hu hne => by
    by_cases hjt : j < t
    · exact h.all j hjt u hu hne
    · obtain rfl : j = t := by omega
      rw [hv] at hu; injection hu with hu; subst hu
      exact absurd e hne, fun hs => h.same (fun j hj => hs j (by omega))⟩
theorem Woken.more {ps : List PL} {now d : Ds} {vs L1 L2 L3 : List Int} {t : Nat} {v : Int} {us : Nat → List Int} (h : Woken ps now d vs L1 L2 t) (hv : vs[t]? = some v) (hne : domOf d v ≠ domOf now v) (hu : UsOk ps ps.length us) (h3 : InPs L3 ps) (hn : L3.Nodup) (hs : ∀ k ∈ L2, k ∈ L3) (ha : ∀ k ∈ us v.toNat, k ∈ L3) : Woken ps now d vs L1 L3 (t + 1) :=
  ⟨h3, hn, fun k hk => hs k (h.sub k hk), fun j hj u hu' hne' k hk hm => by
    by_cases hjt : j < t
    · exact hs _ (h.all j hjt u hu' hne' k hk hm)
    · obtain rfl : j = t := by omega
      rw [hv] at hu'; injection hu' with hu'; subst hu'
      exact ha _ (hu.all k hk hk v hm), fun hs => absurd (hs t (Nat.lt_succ_self t) v hv) hne⟩
/-- the round's end: what rests yet, and that there is less to do -/
theorem woken_end {ps : List PL} {now d : Ds} {x : Nat} {L L1 L2 : List Int} (hg : ∀ p ∈ ps, p.Good now.length) (hn : AllN now) (hx : x < ps.length) (ho : onceP ps[x] now = some d) (hp : ((x : Int) :: L1).Perm L) (hr : Rest ps now L) (hw : Woken ps now d (uniqL ps[x].all) L1 L2 (uniqL ps[x].all).length) :
    Rest ps d L2 ∧ tot d * (ps.length + 1) + L2.length < tot now * (ps.length + 1) + L.length := by
  have hL : L.length = L1.length + 1 := by have := hp.length_eq; simpa using this.symm
  have hgx : ps[x].Good now.length := hg _ (List.getElem_mem hx)
  have hin : ∀ v ∈ ps[x].all, ∃ j, j < (uniqL ps[x].all).length ∧ (uniqL ps[x].all)[j]? = some v := fun v hv => by
    obtain ⟨j, hj, e⟩ := List.mem_iff_getElem.1 (mem_uniqL.2 hv)
    exact ⟨j, hj, by rw [List.getElem?_eq_getElem hj, e]⟩
  constructor
  · intro k hk hkn
    by_cases e : k = x
    · subst e
      have hsame : ∀ v ∈ ps[k].all, domOf d v = domOf now v := fun v hv => Classical.byContradiction fun hne => by
        obtain ⟨j, hj, e⟩ := hin v hv
        exact hkn (hw.all j hj v e hne k hk hv)
      have hd := same_of hn hgx ho hsame
      rw [hd] at ho ⊢
      exact ho
    · have hkL : (k : Int) ∉ L := fun hm => by
        rcases List.mem_cons.1 (hp.mem_iff.2 hm) with h | h
        · omega
        · exact hkn (hw.sub _ h)
      refine stable_on hn hgx (hg _ (List.getElem_mem hk)) ho (hr k hk hkL) (fun v hv hvx => Classical.byContradiction fun hne => ?_)
      obtain ⟨j, hj, e⟩ := hin v hvx
      exact hkn (hw.all j hj v e hne k hk hv)
  · have h2 := len_places ps.length L2 hw.nd hw.ins
    obtain ⟨t1, t2⟩ := once_tot hn ho
    by_cases e : d = now
    · have := hw.same (fun j _ v _ => by rw [e])
      rw [e]; omega
    · have h3 := t2 e
      have h4 : (tot d + 1) * (ps.length + 1) ≤ tot now * (ps.length + 1) := Nat.mul_le_mul_right _ h3
      rw [Nat.add_mul] at h4
      omega
theorem rest_start {ps : List PL} {now : Ds} {L : List Int} (h : ∀ k, k < ps.length → (k : Int) ∈ L) : Rest ps now L := fun k hk hn => absurd (h k hk) hn
theorem rest_end {ps : List PL} {D now : Ds} (h : OnWay ps D now) (hr : Rest ps now []) : FixOf ps D (some now) := onWay_end h fun p hp => by
  obtain ⟨k, hk, rfl⟩ := List.mem_iff_getElem.1 hp
  exact hr k hk (by simp)
theorem allE_of {ds : Ds} (h : ∀ j, (hj : j < ds.length) → norm ds[j] ≠ []) : AllE (ds.map norm) := fun j hj => by
  rw [List.length_map] at hj
  rw [getD_map_norm, List.getD_eq_getElem?_getD, List.getElem?_eq_getElem hj]
  exact h j hj
end Go.Proofs.YtajooiainglpmaaGreat
namespace Go.Proofs.YtajooiainglpmaaGreat
open Go.RowKit

theorem SlAt.ownB {w w' : World} {k : Nat} {v : Value} {n : Nat} {xs : List Value} (h : SlAt w k v n xs) (hs : w.heap.size ≤ w'.heap.size) (hb : ∀ b, b < w.heap.size → v.ownBlock = some b → w'.heap[b]? = w.heap[b]?) : SlAt w' k v n xs := by
  obtain ⟨h1, ao, cap, rfl, h2, h3, h5, h4⟩ := h
  refine ⟨h1, ao, cap, rfl, h2, h3, h5, fun hp => ?_⟩
  obtain ⟨b, off, rfl, hlt, hc⟩ := h4 hp
  refine ⟨b, off, rfl, Nat.lt_of_lt_of_le hlt hs, fun j hj => ?_⟩
  rw [← hc j hj]
  exact World.cell?_of_block (a := ⟨b, off + j, none⟩) (hb b hlt rfl)
/-- nothing of the queue's lies from block B on -/
structure Old (B qb mb : Nat) (pl : Value) : Prop where
  q : qb < B
  m : mb < B
  p : ∀ b, pl.ownBlock = some b → b < B
theorem Old.keeps {B qb mb : Nat} {pl pl' : Value} {W W' : World} (h : Old B qb mb pl) (g : QSm qb mb W pl W' pl') {b : Nat} (hb : B ≤ b) (hl : b < W.heap.size) : W'.heap[b]? = W.heap[b]? :=
  g.blk b hl (by have := h.q; omega) (by have := h.m; omega) (fun e => by have := h.p b e; omega)
theorem QF.old {w : World} {qb mb B : Nat} {pl vp : Value} {L : List Int} {n : Nat} (h : QF w qb mb B pl vp L n) : Old w.heap.size qb mb pl := ⟨h.q.lt, h.s.lt, fun _ e => (own_lt h.q.own e).1⟩
theorem Old.mono {B C qb mb : Nat} {pl : Value} (h : Old B qb mb pl) (hc : B ≤ C) : Old C qb mb pl := ⟨Nat.lt_of_lt_of_le h.q hc, Nat.lt_of_lt_of_le h.m hc, fun b e => Nat.lt_of_lt_of_le (h.p b e) hc⟩
theorem kept_out {W : World} {B bo g qb mb : Nat} {pl : Value} {d : Ds} (h : OutAt W B bo g d) (ho : Old B qb mb pl) : KeptM qb mb W pl (fun W' => DsAt W' (.slice (some ⟨g, 0, none⟩) d.length d.length) d) := by
  intro W' pl' hs
  obtain ⟨us, h1, h2, h3⟩ := h.own
  have hsz := hs.b0.size
  refine ⟨us, h1, SlAt.of_own (own_block h2 (fun b hb => ?_)), fun j hj => ?_⟩
  · obtain ⟨a1, a2⟩ := own_lt h2 hb
    exact ho.keeps hs a2 a1
  · obtain ⟨u, e1, e2⟩ := h3 j hj
    refine ⟨u, e1, SlAt.ownB e2 hsz (fun b hb e => ho.keeps hs (h.new j hj u ?_ b e) hb)⟩
    obtain ⟨g', cap', ao', c', he, _, _, _, hc, _, _⟩ := h.own.get j hj
    simp only [Value.slice.injEq, Option.some.injEq, Addr.mk.injEq, and_true] at he
    obtain ⟨rfl, _⟩ := he
    rw [h2.cellAt j (by omega), e1]
theorem kept_ints {W : World} {B qb mb : Nat} {pl v : Value} {zs : List Int} (h : IsAt W v zs) (hn : ∀ b, v.ownBlock = some b → B ≤ b) (ho : Old B qb mb pl) : KeptM qb mb W pl (fun W' => IsAt W' v zs) :=
  fun _ _ hs => SlAt.ownB h hs.b0.size (fun b hb e => ho.keeps hs (hn b e) hb)
theorem kept_below {qb mb H : Nat} {W : World} {pl : Value} {P : World → Prop} (hP : ∀ W', Below H W W' → P W') (hq : H ≤ qb) (hm : H ≤ mb) (hp : ∀ b, pl.ownBlock = some b → H ≤ b) (hH : H ≤ W.heap.size) : KeptM qb mb W pl P :=
  fun _ _ hs => hP _ (hs.below hq hm hp hH)
theorem qsm_below {qb mb : Nat} {w w' : World} {pl : Value} (h : Below w.heap.size w w') : QSm qb mb w pl w' pl := (QSt.of_below h).toM
/-- below block H all stays as in w0; the queue's blocks and its row lie from H on -/
structure Since (H qb mb : Nat) (w0 W : World) (pl : Value) : Prop where
  b : Below H w0 W
  q : H ≤ qb
  m : H ≤ mb
  p : ∀ b, pl.ownBlock = some b → H ≤ b
  s : H ≤ w0.heap.size
theorem Since.on {H qb mb : Nat} {w0 W W' : World} {pl pl' : Value} (h : Since H qb mb w0 W pl) (g : QSm qb mb W pl W' pl') : Since H qb mb w0 W' pl' :=
  ⟨h.b.trans (g.below h.q h.m h.p (Nat.le_trans h.s h.b.size)), h.q, h.m, fun b e => by
    rcases g.row b e with h1 | h1
    · exact h.p b h1
    · exact Nat.le_trans (Nat.le_trans h.s h.b.size) h1, h.s⟩

/-- 'out = append(out, i)', i's own block laid just before; where the row lies -/
theorem wpList_append1I {P : Program} {w0 : World} {ops : Array Oper} {rest : List Oper} {o : Oper} {a : Act} {Q : Exit → Act → World → Prop} (hgd : o.guard = none) (s x : Operand) (t : TypeId)
    (ho : o.op = .call { callee := .builtin .append, args := #[s, x], argTypes := #[t, t] })
    (base : Nat) (e : TypeId) (i : TypeInfo) (z : Value) (bytes : Nat) (ht : P.underlying t = some (.slice e)) (hi : P.info? e = some i) (hz : i.zero = some z)
    (hsize : i.size = 1) (hby : i.bytes = bytes) (hzs : z.cells.size = 1)
    (v : Value) (n : Nat) (xs : List Value) (hs : a.eval s = v) (hown : w0.ownsRow base e 1 v n xs) {e' : TypeId}
    (u1 : Value) (hx : a.eval x = .slice (some ⟨w0.heap.size, 0, none⟩) 1 1) (h1 : u1.oneCell' = true)
    (hbytes : (n + 1) * bytes ≤ 140737488355328 ∧ n + 1 ≤ 140737488355328) (hbase : base ≤ w0.heap.size)
    (h : ∀ g cap w', w'.ownsRow base e 1 (.slice (some ⟨g, 0, none⟩) (n + 1) cap) (n + 1) (xs ++ [u1]) → Below base w0 w' → KeepsBut w0 w' v → (∀ b, (Value.slice (some ⟨g, 0, none⟩) (n + 1) cap).ownBlock = some b → v.ownBlock = some b ∨ w0.heap.size ≤ b) → wpList P ops Q rest (a.put o.dst (.slice (some ⟨g, 0, none⟩) (n + 1) cap)) w') :
    wpList P ops Q (o :: rest) a (w0.alloc (.cells #[u1] e')) := by
  refine wpList_append_lies _ hgd s x t ho base e i z 1 bytes ht hi hz hsize hby hzs (by decide) v n xs hs (hown.alloc _) ⟨w0.heap.size, 0, none⟩ 1 1 [u1] hx rfl ?_ ?_ (by decide) ?_ hbytes.1 ?_ _ rfl ?_
  · intro j y hj
    have hadd : ((⟨w0.heap.size, 0, none⟩ : Addr).add j) = ⟨w0.heap.size, 0 + j, none⟩ := Go.WideShapes.add_plain _ _ _
    rw [hadd]
    match j, hj with
    | 0, hj => simp at hj; subst hj; simp
    | j + 1, hj => simp at hj
  · intro y hy; simp at hy; subst hy; exact h1
  · unfold maxLen; omega
  · simp; omega
  · intro g cap w' r1 r2 r3 _
    refine h g cap w' r1 (below_grown hbase r2 (ownBlock_ge hown)) (fun b hb hne => ?_) (fun b hb => ?_)
    · rw [r2.block b (by simp; omega) (fun he => hne he.symm)]
      exact Below.heap_alloc w0 _ b hb
    · simp [Value.ownBlock] at hb
      subst hb
      rcases r3 with r3 | r3
      · exact .inl r3
      · right; rw [r3]; simp
/-- the queue at its start -/
theorem QF.start {w : World} {qb mb B : Nat} {vp : Value} (c0 : w.cell? ⟨qb, 0, none⟩ = some (.slice none 0 0)) (c1 : w.cell? ⟨qb, 1, none⟩ = some vp) (c2 : w.cell? ⟨qb, 2, none⟩ = some (.map (some mb))) (f0 : w.frozen? ⟨qb, 0, none⟩ = false) (lq : qb < B) (lm : mb < B) (hne : qb ≠ mb) (hs : SetAt Tryz.prog 3 4 w mb 0 (fun _ => false)) : QF w qb mb B (.slice none 0 0) vp [] 0 :=
  ⟨⟨c0, c1, c2, f0, World.ownsRow_nil _ _ _ _, lq, lm⟩, hs.congr (fun i => by simp), List.nodup_nil, hne⟩
end Go.Proofs.YtajooiainglpmaaGreat
namespace Go.Proofs.YtajooiainglpmaaGreat
open Go.RowKit

theorem Tryz.infoInts : (Tryz.prog.info? 26).map (fun i => (i.zero, i.size, i.bytes)) = some (some (.slice none 0 0), 1, 24) := by kernel_rfl
theorem mk_irows (n : Nat) (hn : n ≤ 4096) (W : World) : (Instr.makeSlice 86 (.int .i64 n) (.int .i64 n)).run Tryz.prog W = .ok (.slice (some ⟨W.heap.size, 0, none⟩) n n) (W.alloc (.cells (madeCells #[.slice none 0 0] n) 26)) := by
  obtain ⟨i0, hi, hz0, hz1, hz2⟩ := info_parts Tryz.infoInts
  have h := run_make (P := Tryz.prog) W 86 26 i0 (.slice none 0 0) Tryz.underlying86 hi hz0 .i64 .i64 n n (by omega) (Int.le_refl _) (by rw [hz2]; omega) (by omega)
  rw [h, hz1]
  simp [Value.cells]

/-- what comes in -/
structure FixIn (ds : Ds) (ps : List PL) : Prop where
  fine : ∀ p ∈ ps, p.Fine ds
  ok : ∀ p ∈ ps, p.ok
  n : ds.length ≤ 100
  dm : ∀ d ∈ ds, d.length ≤ 4096
  P : ps.length ≤ 300
theorem PL.Fine.now {p : PL} {ds now : Ds} (h : p.Fine ds) (hl : now.length = ds.length) (hn : AllN now) : p.Fine now :=
  ⟨h.kind, fun hk => by
    obtain ⟨g, a, b, c, d⟩ := h.lin hk
    refine ⟨⟨g.len, g.le16, g.coefs, fun v hv => by rw [hl]; exact g.vars v hv, fun d hd => ?_⟩, a, b, c, d⟩
    obtain ⟨j, hj, rfl⟩ := List.mem_iff_getElem.1 hd
    exact Nat.le_trans (normal_len (allN_at hn hj)) (by decide), h.vsl, fun v hv => by rw [hl]; exact h.vars v hv⟩
theorem allN_short' {r : Ds} (h : AllN r) : ∀ d ∈ r, d.length ≤ 4096 := fun d hd => by
  obtain ⟨j, hj, rfl⟩ := List.mem_iff_getElem.1 hd
  exact Nat.le_trans (normal_len (allN_at h hj)) (by decide)

/-- behind the start: W2 is the world ahead of the queue's making; H its size: the map lies in H, the queue in H + 1, the uses in H + 2 -/
structure QU (W2 : World) (H n : Nat) (vp : Value) (ps : List PL) (W : World) (pl : Value) (L : List Int) (c : Nat) (vals : Nat → Value) (us : Nat → List Int) : Prop where
  hH : W2.heap.size = H
  si : Since H (H + 1) H W2 W pl
  q : QF W (H + 1) H (H + 3) pl vp L (c + L.length)
  u : UsAt W (H + 2) (H + 3) n vals us
  ap : UsAp n vals pl
  lp : InPs L ps
  B : H + 3 ≤ W.heap.size
theorem QU.len {W2 : World} {H n : Nat} {vp : Value} {ps : List PL} {W : World} {pl : Value} {L : List Int} {c : Nat} {vals : Nat → Value} {us : Nat → List Int} (h : QU W2 H n vp ps W pl L c vals us) : L.length ≤ ps.length := len_places _ _ h.q.nd h.lp
theorem QU.qsm {W2 : World} {H n : Nat} {vp : Value} {ps : List PL} {W W' : World} {pl pl' : Value} {L L' : List Int} {c c' : Nat} {vals : Nat → Value} {us : Nat → List Int} (h : QU W2 H n vp ps W pl L c vals us) (g : QSm (H + 1) H W pl W' pl') (hq : QF W' (H + 1) H (H + 3) pl' vp L' (c' + L'.length)) (hl : InPs L' ps) : QU W2 H n vp ps W' pl' L' c' vals us := by
  have hB := h.B
  obtain ⟨u, ap⟩ := h.u.turn (by omega) g (by omega) (by omega) (by omega) (by omega) (own_apart h.q.q.own (by omega)) h.ap
  exact ⟨h.hH, h.si.on g, hq, u, ap, hl, Nat.le_trans hB g.b0.size⟩
theorem QU.below {W2 : World} {H n : Nat} {vp : Value} {ps : List PL} {W W' : World} {pl : Value} {L : List Int} {c : Nat} {vals : Nat → Value} {us : Nat → List Int} (h : QU W2 H n vp ps W pl L c vals us) (hb : Below W.heap.size W W') : QU W2 H n vp ps W' pl L c vals us :=
  h.qsm (qsm_below hb) (h.q.below hb) h.lp
theorem QU.b0 {W2 : World} {H n : Nat} {vp : Value} {ps : List PL} {W : World} {pl : Value} {L : List Int} {c : Nat} {vals : Nat → Value} {us : Nat → List Int} (h : QU W2 H n vp ps W pl L c vals us) : Below W2.heap.size W2 W := by rw [h.hH]; exact h.si.b
/-- whatever lay ahead of the queue stays, whatever wait and next do -/
theorem QU.kept {W2 : World} {H n : Nat} {vp : Value} {ps : List PL} {W : World} {pl : Value} {L : List Int} {c : Nat} {vals : Nat → Value} {us : Nat → List Int} (h : QU W2 H n vp ps W pl L c vals us) {P : World → Prop} (hP : ∀ W', Below W2.heap.size W2 W' → P W') : KeptM (H + 1) H W pl P := by
  have hB := h.B
  refine kept_below (H := H) (fun W' hb => hP W' ?_) h.si.q h.si.m h.si.p (by omega)
  rw [h.hH]; exact h.si.b.trans hb
/-- a row of the uses grows by one -/
theorem QU.push {W2 : World} {H n : Nat} {vp : Value} {ps : List PL} {W W1 : World} {pl : Value} {L : List Int} {c : Nat} {vals : Nat → Value} {us : Nat → List Int} (h : QU W2 H n vp ps W pl L c vals us) {v : Nat} (hv : v < n) {i : Int} {r : Value} {k : Nat} (hk : k = (us v).length + 1) (ow : W1.ownsRow (H + 3) 3 1 r k ((us v ++ [i]).map (Value.int .i64))) (bw : Below (H + 3) W W1)
    (kw : ∀ b, b < W.heap.size → (vals v).ownBlock ≠ some b → W1.heap[b]? = W.heap[b]?) (aw : ∀ b, r.ownBlock = some b → (vals v).ownBlock = some b ∨ W.heap.size ≤ b) :
    QU W2 H n vp ps (W1.setCell ⟨H + 2, v, none⟩ r) pl L c (fun u => if u = v then r else vals u) (fun u => if u = v then us v ++ [i] else us u) := by
  have hB := h.B
  have hown := h.u.own v hv
  have e : ∀ b, b < W.heap.size → (vals v).ownBlock ≠ some b → b ≠ H + 2 → (W1.setCell ⟨H + 2, v, none⟩ r).heap[b]? = W.heap[b]? := fun b h1 h2 h3 => (Below.heap_setCell _ _ _ _ (by simpa using h3)).trans (kw b h1 h2)
  refine ⟨h.hH, ⟨?_, h.si.q, h.si.m, h.si.p, h.si.s⟩, h.q.frame ?_ ?_ ?_, h.u.push hB hv hk ow bw kw aw, UsAp.push h.u (fun b hb => (own_lt h.q.q.own hb).1) h.ap hv aw, h.lp, ?_⟩
  · exact (h.si.b.trans (bw.mono (by omega))).setCell (p := ⟨H + 2, v, none⟩) (by dsimp only; omega) _
  · exact e (H + 1) (by omega) (own_apart hown (by omega)) (by omega)
  · exact e H (by omega) (own_apart hown (by omega)) (by omega)
  · intro b hb
    have h1 := own_lt h.q.q.own hb
    exact e b h1.1 (fun e => h.ap v b hv e hb) (by omega)
  · have := bw.size
    simp [World.setCell]; omega

theorem qu_wait {W2 : World} {H n : Nat} {vp : Value} {ps : List PL} {W : World} {pl : Value} {L : List Int} {c : Nat} {vals : Nat → Value} {us : Nat → List Int} (h : QU W2 H n vp ps W pl L c vals us) (hp : PsAt W2 vp ps) (hok : ∀ p ∈ ps, p.ok) (hP : ps.length ≤ 300) (hc : c ≤ 20000000) {i : Int} (hi : 0 ≤ i ∧ i.toNat < ps.length) :
    Calls Tryz.prog 46 #[.pointer (some ⟨H + 1, 0, none⟩), .int .i64 i] W
      fun e W' => (∃ u, e = .returned u) ∧ ∃ pl' L', QU W2 H n vp ps W' pl' L' c vals us ∧ (∀ k, k ∈ L' ↔ k ∈ L ∨ k = i) ∧ QSm (H + 1) H W pl W' pl' := by
  have hl := h.len
  refine (wait_c (H + 1) H (H + 3) pl vp L ps i (c + L.length) W h.q (h.kept fun W' hb => hp.below hb) (fun p hp => Nat.le_trans (hok p hp).2.2 (by omega)) (by omega) h.lp hi (by omega) (by unfold maxLen; omega) h.B).mono ?_
  rintro e W' ⟨h1, pl', L', hperm, hq, hs⟩
  refine ⟨h1, pl', L', h.qsm hs ?_ ?_, ?_, hs⟩
  · have := hperm.length_eq
    by_cases hm : i ∈ L
    · rw [if_pos hm] at this hq; rw [this]; exact hq
    · rw [if_neg hm] at this hq; rw [this, List.length_append, List.length_singleton, ← Nat.add_assoc]; exact hq
  · intro k hk
    have := hperm.mem_iff.1 hk
    by_cases hm : i ∈ L
    · rw [if_pos hm] at this; exact h.lp k this
    · rw [if_neg hm] at this
      rcases List.mem_append.1 this with h2 | h2
      · exact h.lp k h2
      · rw [List.mem_singleton.1 h2]; exact hi
  · intro k
    rw [hperm.mem_iff]
    by_cases hm : i ∈ L
    · rw [if_pos hm]
      exact ⟨.inl, fun h2 => h2.elim id (fun e => e ▸ hm)⟩
    · rw [if_neg hm]; simp
theorem qu_next {W2 : World} {H n : Nat} {vp : Value} {ps : List PL} {W : World} {pl : Value} {L : List Int} {c : Nat} {vals : Nat → Value} {us : Nat → List Int} (h : QU W2 H n vp ps W pl L c vals us) (hp : PsAt W2 vp ps) (hok : ∀ p ∈ ps, p.ok) (hP : ps.length ≤ 300) (hne : L ≠ []) :
    Calls Tryz.prog 49 #[.pointer (some ⟨H + 1, 0, none⟩)] W
      fun e W' => ∃ x : Nat, e = .returned (.int .i64 x) ∧ x < ps.length ∧ ∃ pl' L', ((x : Int) :: L').Perm L ∧ QU W2 H n vp ps W' pl' L' (c + 1) vals us ∧ QSm (H + 1) H W pl W' pl' := by
  have hl := h.len
  obtain ⟨m, hm⟩ : ∃ m, L.length = m + 1 := ⟨L.length - 1, by have := List.length_pos_iff.2 hne; omega⟩
  refine (next_c (H + 1) H (H + 3) pl vp L ps m (c + L.length) W h.q (h.kept fun W' hb => hp.below hb) (fun p hp => Nat.le_trans (hok p hp).2.2 (by omega)) (by omega) h.lp hm (by omega)).mono ?_
  rintro e W' ⟨x, he, pl', L', hperm, hq, hs⟩
  have hx := h.lp x (hperm.mem_iff.1 List.mem_cons_self)
  obtain ⟨nx, rfl⟩ := Int.eq_ofNat_of_zero_le hx.1
  have hle := hperm.length_eq
  rw [List.length_cons] at hle
  refine ⟨nx, he, by have := hx.2; omega, pl', L', hperm, h.qsm hs ?_ (fun k hk => h.lp k (hperm.mem_iff.1 (List.mem_cons_of_mem _ hk))), hs⟩
  rw [show c + 1 + L'.length = c + L.length by omega]
  exact hq

/-- which constraints name a variable, in the midst of the uses' making -/
structure UsP (ps : List PL) (i t : Nat) (vs : List Int) (us : Nat → List Int) : Prop where
  old : ∀ k, (hk : k < ps.length) → k < i → ∀ v ∈ ps[k].all, (k : Int) ∈ us v.toNat
  cur : ∀ j, j < t → ∀ v, vs[j]? = some v → (i : Int) ∈ us v.toNat
  ins : ∀ v, InPs (us v) ps
  len : ∀ v, (us v).length ≤ i * 8192 + t
theorem UsP.start (ps : List PL) (vs : List Int) : UsP ps 0 0 vs (fun _ => []) := ⟨fun _ _ h => absurd h (Nat.not_lt_zero _), fun _ h => absurd h (Nat.not_lt_zero _), fun _ _ h => by simp at h, fun _ => by simp⟩
theorem UsP.start' {ps : List PL} {i : Nat} {vs us} (vs' : List Int) (h : UsP ps i 0 vs us) : UsP ps i 0 vs' us := ⟨h.old, fun _ h => absurd h (Nat.not_lt_zero _), h.ins, h.len⟩
theorem UsP.push {ps : List PL} {i t : Nat} {vs : List Int} {us : Nat → List Int} (h : UsP ps i t vs us) (hi : i < ps.length) {v : Nat} (hv : vs[t]? = some (v : Int)) : UsP ps i (t + 1) vs (fun u => if u = v then us v ++ [(i : Int)] else us u) := by
  have hsub : ∀ (u : Nat) (k : Int), k ∈ us u → k ∈ (if u = v then us v ++ [(i : Int)] else us u) := fun u k hk => by
    by_cases e : u = v
    · subst e; rw [if_pos rfl]; exact List.mem_append_left _ hk
    · rw [if_neg e]; exact hk
  refine ⟨fun k hk hki w hw => hsub _ _ (h.old k hk hki w hw), fun j hj w hw => ?_, fun u k hk => ?_, fun u => ?_⟩
  · by_cases hjt : j < t
    · exact hsub _ _ (h.cur j hjt w hw)
    · obtain rfl : j = t := by omega
      rw [hv] at hw
      injection hw with hw
      subst hw
      rw [Int.toNat_natCast, if_pos rfl]; simp
  · by_cases e : u = v
    · rw [if_pos e] at hk
      rcases List.mem_append.1 hk with h1 | h1
      · exact h.ins v k h1
      · rw [List.mem_singleton.1 h1]; omega
    · rw [if_neg e] at hk; exact h.ins u k hk
  · have h1 := h.len v
    have h2 := h.len u
    split
    · rw [List.length_append, List.length_singleton]; omega
    · omega
set_option maxRecDepth 100000 in
theorem UsP.next {ps : List PL} {i : Nat} {us : Nat → List Int} (hi : i < ps.length) (h : UsP ps i (uniqL ps[i].all).length (uniqL ps[i].all) us) (hl : (uniqL ps[i].all).length ≤ 4096) (vs' : List Int) : UsP ps (i + 1) 0 vs' us :=
  ⟨fun k hk hki v hv => by
    by_cases e : k = i
    · subst e
      obtain ⟨j, hj, e⟩ := List.mem_iff_getElem.1 (mem_uniqL.2 hv)
      exact h.cur j hj v (by rw [List.getElem?_eq_getElem hj, e])
    · exact h.old k hk (by omega) v hv, fun _ h => absurd h (Nat.not_lt_zero _), h.ins, fun v => by
    have h1 := h.len v
    clear h
    generalize (us v).length = a at *
    generalize (uniqL ps[i].all).length = m at *
    rw [Nat.add_mul, Nat.one_mul]
    omega⟩
theorem UsP.done {ps : List PL} {vs : List Int} {us : Nat → List Int} (h : UsP ps ps.length 0 vs us) : UsOk ps ps.length us := ⟨fun k hk _ v hv => h.old k hk hk v hv, h.ins⟩
theorem allL_len (kind : Int) (vars : List Int) (x y z : Int) (vs : List Int) (h1 : vars.length ≤ 4095) (h2 : vs.length ≤ 4095) : (allL kind vars x y z vs).length ≤ 4096 := by
  unfold allL
  split
  · omega
  · split
    · simp
    · split
      · omega
      · split
        · simp; omega
        · simp
theorem all_len {p : PL} (h : p.ok) : (uniqL p.all).length ≤ 4096 := Nat.le_trans (uniqL_len _) (allL_len _ _ _ _ _ _ h.2.1 h.2.2)
/-- behind the queue's making -/
theorem QU.start {W2 : World} {H n : Nat} (hH : W2.heap.size = H) (hn : n ≤ 100) (vp : Value) (ps : List PL) (T1 T2 : TypeId) :
    QU W2 H n vp ps (((W2.alloc (.map #[] 0)).alloc (.cells #[.slice none 0 0, vp, .map (some H)] T1)).alloc (.cells (madeCells #[.slice none 0 0] n) T2)) (.slice none 0 0) [] 0 (fun _ => .slice none 0 0) (fun _ => []) := by
  subst hH
  have b1 : Below W2.heap.size W2 (W2.alloc (.map #[] 0)) := (Below.refl _ _).alloc (Nat.le_refl _) _
  have b2 := b1.alloc (by simp) (.cells #[.slice none 0 0, vp, .map (some W2.heap.size)] T1)
  have B2 : BoxL ((W2.alloc (.map #[] 0)).alloc (.cells #[.slice none 0 0, vp, .map (some W2.heap.size)] T1)) (W2.heap.size + 1) [.slice none 0 0, vp, .map (some W2.heap.size)] := by
    have h := BoxL.mk' (W2.alloc (.map #[] 0)) #[.slice none 0 0, vp, .map (some W2.heap.size)] T1
    rw [show (W2.alloc (.map #[] 0)).heap.size = W2.heap.size + 1 by simp] at h
    exact h
  generalize hWx : (W2.alloc (.map #[] 0)).alloc (.cells #[.slice none 0 0, vp, .map (some W2.heap.size)] T1) = Wx at *
  have hsx : Wx.heap.size = W2.heap.size + 2 := by rw [← hWx]; simp
  have bx : Below Wx.heap.size Wx (Wx.alloc (.cells (madeCells #[.slice none 0 0] n) T2)) := (Below.refl _ _).alloc (Nat.le_refl _) _
  have B3 := B2.below bx (by omega)
  obtain ⟨c0, f0⟩ := B3.get 0 (u := .slice none 0 0) rfl
  obtain ⟨c1, _⟩ := B3.get 1 (u := vp) rfl
  obtain ⟨c2, _⟩ := B3.get 2 (u := .map (some W2.heap.size)) rfl
  have hS0 : SetAt Tryz.prog 3 4 Wx W2.heap.size 0 (fun _ => false) := by
    rw [← hWx]
    exact (SetAt.made W2).later ((Below.refl _ _).alloc (Nat.le_refl _) _)
  have hS := hS0.later bx
  have ow := World.ownsRow_lit (base := 0) Wx (madeCells #[.slice none 0 0] n) n (e := T2) (size := 1) (Nat.zero_le _) (by unfold maxLen; omega) (by simp [size_madeCells])
  rw [toList_madeCells_one, hsx] at ow
  refine ⟨rfl, ⟨b2.trans (bx.mono (by omega)), by omega, by omega, fun b hb => by simp [Value.ownBlock] at hb, Nat.le_refl _⟩, QF.start c0 c1 c2 f0 (by omega) (by omega) (by omega) hS, ⟨fun v hv => ?_, fun v hv => ow.frozenAt v, fun v hv => World.ownsRow_nil _ _ _ _, fun u v b _ _ _ hb => by simp [Value.ownBlock] at hb, by omega⟩, fun v b _ hb => by simp [Value.ownBlock] at hb, fun k hk => by simp at hk, by simp; omega⟩
  rw [ow.cellAt v (by omega), List.getElem?_replicate_of_lt (by omega)]
/-- the variables that rel.Vars told, while the uses are made -/
structure VsAt (W : World) (H n : Nat) (v : Value) (vs : List Int) (vals : Nat → Value) : Prop where
  at' : IsAt W v vs
  ap : ∀ u b, u < n → (vals u).ownBlock = some b → v.ownBlock ≠ some b
  new : ∀ b, v.ownBlock = some b → H + 3 ≤ b
theorem VsAt.mk' {W2 : World} {H n : Nat} {vp : Value} {ps : List PL} {W W' : World} {pl : Value} {L : List Int} {c : Nat} {vals : Nat → Value} {us : Nat → List Int} (h : QU W2 H n vp ps W pl L c vals us) {v : Value} {vs : List Int} (hi : IsAt W' v vs) (hn : ∀ b, v.ownBlock = some b → W.heap.size ≤ b) : VsAt W' H n v vs vals :=
  ⟨hi, fun u b hu e e' => by have := (own_lt (h.u.own u hu) e).1; have := hn b e'; omega, fun b e => Nat.le_trans h.B (hn b e)⟩
theorem VsAt.push {W W1 : World} {H n : Nat} {x : Value} {vs : List Int} {vals : Nat → Value} (h : VsAt W H n x vs vals) {v : Nat} (hv : v < n) (hx : ∀ b, x.ownBlock = some b → b < W.heap.size) {r : Value} (hs : W.heap.size ≤ W1.heap.size)
    (kw : ∀ b, b < W.heap.size → (vals v).ownBlock ≠ some b → W1.heap[b]? = W.heap[b]?) (aw : ∀ b, r.ownBlock = some b → (vals v).ownBlock = some b ∨ W.heap.size ≤ b) :
    VsAt (W1.setCell ⟨H + 2, v, none⟩ r) H n x vs (fun u => if u = v then r else vals u) := by
  refine ⟨SlAt.ownB h.at' (by simpa [World.setCell] using hs) (fun b hb e => ?_), fun u b hu e => ?_, h.new⟩
  · have h1 := h.new b e
    exact (Below.heap_setCell _ _ _ _ (by dsimp only; omega)).trans (kw b hb (fun e' => h.ap v b hv e' e))
  · by_cases e1 : u = v
    · rw [if_pos e1] at e
      rcases aw b e with h1 | h1
      · exact h.ap v b hv h1
      · exact fun e' => by have := hx b e'; omega
    · rw [if_neg e1] at e
      exact h.ap u b hu e
end Go.Proofs.YtajooiainglpmaaGreat
