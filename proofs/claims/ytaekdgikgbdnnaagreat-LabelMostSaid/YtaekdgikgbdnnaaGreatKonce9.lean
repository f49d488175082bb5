/-
  THE STATE OF fix.Fix behind its start: the queue, its map, the uses; wait and next in it.
  The value in a place; whether a sum stands so: the program's and the reference's, walked.
  The reference's value and whether a sum stands so; a product, a told sum; walked.
  A told sum, walked.
  Whether variables are unlike (by a map of what was seen), walked.
  rel.Holds by its four kinds, walked.
  coneyref16.Holds by its four kinds, walked.
-/
import Derived.Test.YtaekdgikgbdnnaaGreatKonce8
import Derived.Test.YtaekdgikgbdnnaaGreatKonce7
import Derived.Test.YtaekdgikgbdnnaaGreatKonce3
import Derived.Test.YtaekdgikgbdnnaaGreatKdom3
import Derived.Deep.QuietTactic
import Derived.BigQuiet
import Derived.Test.YtaekdgikgbdnnaaGreatKlib1
namespace Go.Proofs.YtaekdgikgbdnnaaGreat
open Go.RowKit

theorem Tryz.infoInts : (Tryz.prog.info? 26).map (fun i => (i.zero, i.size, i.bytes)) = some (some (.slice none 0 0), 1, 24) := by kernel_rfl
theorem mk_irows (n : Nat) (hn : n ≤ 4096) (W : World) : (Instr.makeSlice 32 (.int .i64 n) (.int .i64 n)).run Tryz.prog W = .ok (.slice (some ⟨W.heap.size, 0, none⟩) n n) (W.alloc (.cells (madeCells #[.slice none 0 0] n) 26)) := by
  obtain ⟨i0, hi, hz0, hz1, hz2⟩ := info_parts Tryz.infoInts
  have h := run_make (P := Tryz.prog) W 32 26 i0 (.slice none 0 0) Tryz.underlying32 hi hz0 .i64 .i64 n n (by omega) (Int.le_refl _) (by rw [hz2]; omega) (by omega)
  rw [h, hz1]
  simp [Value.cells]

/-- what comes in -/
structure FixIn (ds : Ds) (ps : List PL) : Prop where
  fine : ∀ p ∈ ps, p.Fine ds
  ok : ∀ p ∈ ps, p.ok
  n : ds.length ≤ 100
  dm : ∀ d ∈ ds, d.length ≤ 4096
  P : ps.length ≤ 300
theorem PL.Fine.now {p : PL} {ds now : Ds} (h : p.Fine ds) (hl : now.length = ds.length) (hn : AllN now) : p.Fine now :=
  ⟨h.kind, fun hk => by
    obtain ⟨g, a, b, c, d⟩ := h.lin hk
    refine ⟨⟨g.len, g.le16, g.coefs, fun v hv => by rw [hl]; exact g.vars v hv, fun d hd => ?_⟩, a, b, c, d⟩
    obtain ⟨j, hj, rfl⟩ := List.mem_iff_getElem.1 hd
    exact Nat.le_trans (normal_len (allN_at hn hj)) (by decide), h.vsl, fun v hv => by rw [hl]; exact h.vars v hv⟩
theorem allN_short' {r : Ds} (h : AllN r) : ∀ d ∈ r, d.length ≤ 4096 := fun d hd => by
  obtain ⟨j, hj, rfl⟩ := List.mem_iff_getElem.1 hd
  exact Nat.le_trans (normal_len (allN_at h hj)) (by decide)

/-- behind the start: W2 is the world ahead of the queue's making; H its size: the map lies in H, the queue in H + 1, the uses in H + 2 -/
structure QU (W2 : World) (H n : Nat) (vp : Value) (ps : List PL) (W : World) (pl : Value) (L : List Int) (c : Nat) (vals : Nat → Value) (us : Nat → List Int) : Prop where
  hH : W2.heap.size = H
  si : Since H (H + 1) H W2 W pl
  q : QF W (H + 1) H (H + 3) pl vp L (c + L.length)
  u : UsAt W (H + 2) (H + 3) n vals us
  ap : UsAp n vals pl
  lp : InPs L ps
  B : H + 3 ≤ W.heap.size
theorem QU.len {W2 : World} {H n : Nat} {vp : Value} {ps : List PL} {W : World} {pl : Value} {L : List Int} {c : Nat} {vals : Nat → Value} {us : Nat → List Int} (h : QU W2 H n vp ps W pl L c vals us) : L.length ≤ ps.length := len_places _ _ h.q.nd h.lp
theorem QU.qsm {W2 : World} {H n : Nat} {vp : Value} {ps : List PL} {W W' : World} {pl pl' : Value} {L L' : List Int} {c c' : Nat} {vals : Nat → Value} {us : Nat → List Int} (h : QU W2 H n vp ps W pl L c vals us) (g : QSm (H + 1) H W pl W' pl') (hq : QF W' (H + 1) H (H + 3) pl' vp L' (c' + L'.length)) (hl : InPs L' ps) : QU W2 H n vp ps W' pl' L' c' vals us := by
  have hB := h.B
  obtain ⟨u, ap⟩ := h.u.turn (by omega) g (by omega) (by omega) (by omega) (by omega) (own_apart h.q.q.own (by omega)) h.ap
  exact ⟨h.hH, h.si.on g, hq, u, ap, hl, Nat.le_trans hB g.b0.size⟩
theorem QU.below {W2 : World} {H n : Nat} {vp : Value} {ps : List PL} {W W' : World} {pl : Value} {L : List Int} {c : Nat} {vals : Nat → Value} {us : Nat → List Int} (h : QU W2 H n vp ps W pl L c vals us) (hb : Below W.heap.size W W') : QU W2 H n vp ps W' pl L c vals us :=
  h.qsm (qsm_below hb) (h.q.below hb) h.lp
theorem QU.b0 {W2 : World} {H n : Nat} {vp : Value} {ps : List PL} {W : World} {pl : Value} {L : List Int} {c : Nat} {vals : Nat → Value} {us : Nat → List Int} (h : QU W2 H n vp ps W pl L c vals us) : Below W2.heap.size W2 W := by rw [h.hH]; exact h.si.b
/-- whatever lay ahead of the queue stays, whatever wait and next do -/
theorem QU.kept {W2 : World} {H n : Nat} {vp : Value} {ps : List PL} {W : World} {pl : Value} {L : List Int} {c : Nat} {vals : Nat → Value} {us : Nat → List Int} (h : QU W2 H n vp ps W pl L c vals us) {P : World → Prop} (hP : ∀ W', Below W2.heap.size W2 W' → P W') : KeptM (H + 1) H W pl P := by
  have hB := h.B
  refine kept_below (H := H) (fun W' hb => hP W' ?_) h.si.q h.si.m h.si.p (by omega)
  rw [h.hH]; exact h.si.b.trans hb
/-- a row of the uses grows by one -/
theorem QU.push {W2 : World} {H n : Nat} {vp : Value} {ps : List PL} {W W1 : World} {pl : Value} {L : List Int} {c : Nat} {vals : Nat → Value} {us : Nat → List Int} (h : QU W2 H n vp ps W pl L c vals us) {v : Nat} (hv : v < n) {i : Int} {r : Value} {k : Nat} (hk : k = (us v).length + 1) (ow : W1.ownsRow (H + 3) 3 1 r k ((us v ++ [i]).map (Value.int .i64))) (bw : Below (H + 3) W W1)
    (kw : ∀ b, b < W.heap.size → (vals v).ownBlock ≠ some b → W1.heap[b]? = W.heap[b]?) (aw : ∀ b, r.ownBlock = some b → (vals v).ownBlock = some b ∨ W.heap.size ≤ b) :
    QU W2 H n vp ps (W1.setCell ⟨H + 2, v, none⟩ r) pl L c (fun u => if u = v then r else vals u) (fun u => if u = v then us v ++ [i] else us u) := by
  have hB := h.B
  have hown := h.u.own v hv
  have e : ∀ b, b < W.heap.size → (vals v).ownBlock ≠ some b → b ≠ H + 2 → (W1.setCell ⟨H + 2, v, none⟩ r).heap[b]? = W.heap[b]? := fun b h1 h2 h3 => (Below.heap_setCell _ _ _ _ (by simpa using h3)).trans (kw b h1 h2)
  refine ⟨h.hH, ⟨?_, h.si.q, h.si.m, h.si.p, h.si.s⟩, h.q.frame ?_ ?_ ?_, h.u.push hB hv hk ow bw kw aw, UsAp.push h.u (fun b hb => (own_lt h.q.q.own hb).1) h.ap hv aw, h.lp, ?_⟩
  · exact (h.si.b.trans (bw.mono (by omega))).setCell (p := ⟨H + 2, v, none⟩) (by dsimp only; omega) _
  · exact e (H + 1) (by omega) (own_apart hown (by omega)) (by omega)
  · exact e H (by omega) (own_apart hown (by omega)) (by omega)
  · intro b hb
    have h1 := own_lt h.q.q.own hb
    exact e b h1.1 (fun e => h.ap v b hv e hb) (by omega)
  · have := bw.size
    simp [World.setCell]; omega

theorem qu_wait {W2 : World} {H n : Nat} {vp : Value} {ps : List PL} {W : World} {pl : Value} {L : List Int} {c : Nat} {vals : Nat → Value} {us : Nat → List Int} (h : QU W2 H n vp ps W pl L c vals us) (hp : PsAt W2 vp ps) (hok : ∀ p ∈ ps, p.ok) (hP : ps.length ≤ 300) (hc : c ≤ 20000000) {i : Int} (hi : 0 ≤ i ∧ i.toNat < ps.length) :
    Calls Tryz.prog 62 #[.pointer (some ⟨H + 1, 0, none⟩), .int .i64 i] W
      fun e W' => (∃ u, e = .returned u) ∧ ∃ pl' L', QU W2 H n vp ps W' pl' L' c vals us ∧ (∀ k, k ∈ L' ↔ k ∈ L ∨ k = i) ∧ QSm (H + 1) H W pl W' pl' := by
  have hl := h.len
  refine (wait_c (H + 1) H (H + 3) pl vp L ps i (c + L.length) W h.q (h.kept fun W' hb => hp.below hb) (fun p hp => Nat.le_trans (hok p hp).2.2 (by omega)) (by omega) h.lp hi (by omega) (by unfold maxLen; omega) h.B).mono ?_
  rintro e W' ⟨h1, pl', L', hperm, hq, hs⟩
  refine ⟨h1, pl', L', h.qsm hs ?_ ?_, ?_, hs⟩
  · have := hperm.length_eq
    by_cases hm : i ∈ L
    · rw [if_pos hm] at this hq; rw [this]; exact hq
    · rw [if_neg hm] at this hq; rw [this, List.length_append, List.length_singleton, ← Nat.add_assoc]; exact hq
  · intro k hk
    have := hperm.mem_iff.1 hk
    by_cases hm : i ∈ L
    · rw [if_pos hm] at this; exact h.lp k this
    · rw [if_neg hm] at this
      rcases List.mem_append.1 this with h2 | h2
      · exact h.lp k h2
      · rw [List.mem_singleton.1 h2]; exact hi
  · intro k
    rw [hperm.mem_iff]
    by_cases hm : i ∈ L
    · rw [if_pos hm]
      exact ⟨.inl, fun h2 => h2.elim id (fun e => e ▸ hm)⟩
    · rw [if_neg hm]; simp
theorem qu_next {W2 : World} {H n : Nat} {vp : Value} {ps : List PL} {W : World} {pl : Value} {L : List Int} {c : Nat} {vals : Nat → Value} {us : Nat → List Int} (h : QU W2 H n vp ps W pl L c vals us) (hp : PsAt W2 vp ps) (hok : ∀ p ∈ ps, p.ok) (hP : ps.length ≤ 300) (hne : L ≠ []) :
    Calls Tryz.prog 65 #[.pointer (some ⟨H + 1, 0, none⟩)] W
      fun e W' => ∃ x : Nat, e = .returned (.int .i64 x) ∧ x < ps.length ∧ ∃ pl' L', ((x : Int) :: L').Perm L ∧ QU W2 H n vp ps W' pl' L' (c + 1) vals us ∧ QSm (H + 1) H W pl W' pl' := by
  have hl := h.len
  obtain ⟨m, hm⟩ : ∃ m, L.length = m + 1 := ⟨L.length - 1, by have := List.length_pos_iff.2 hne; omega⟩
  refine (next_c (H + 1) H (H + 3) pl vp L ps m (c + L.length) W h.q (h.kept fun W' hb => hp.below hb) (fun p hp => Nat.le_trans (hok p hp).2.2 (by omega)) (by omega) h.lp hm (by omega)).mono ?_
  rintro e W' ⟨x, he, pl', L', hperm, hq, hs⟩
  have hx := h.lp x (hperm.mem_iff.1 List.mem_cons_self)
  obtain ⟨nx, rfl⟩ := Int.eq_ofNat_of_zero_le hx.1
  have hle := hperm.length_eq
  rw [List.length_cons] at hle
  refine ⟨nx, he, by have := hx.2; omega, pl', L', hperm, h.qsm hs ?_ (fun k hk => h.lp k (hperm.mem_iff.1 (List.mem_cons_of_mem _ hk))), hs⟩
  rw [show c + 1 + L'.length = c + L.length by omega]
  exact hq

/-- which constraints name a variable, in the midst of the uses' making -/
structure UsP (ps : List PL) (i t : Nat) (vs : List Int) (us : Nat → List Int) : Prop where
  old : ∀ k, (hk : k < ps.length) → k < i → ∀ v ∈ ps[k].all, (k : Int) ∈ us v.toNat
  cur : ∀ j, j < t → ∀ v, vs[j]? = some v → (i : Int) ∈ us v.toNat
  ins : ∀ v, InPs (us v) ps
  len : ∀ v, (us v).length ≤ i * 8192 + t
theorem UsP.start (ps : List PL) (vs : List Int) : UsP ps 0 0 vs (fun _ => []) := ⟨fun _ _ h => absurd h (Nat.not_lt_zero _), fun _ h => absurd h (Nat.not_lt_zero _), fun _ _ h => by simp at h, fun _ => by simp⟩
theorem UsP.start' {ps : List PL} {i : Nat} {vs us} (vs' : List Int) (h : UsP ps i 0 vs us) : UsP ps i 0 vs' us := ⟨h.old, fun _ h => absurd h (Nat.not_lt_zero _), h.ins, h.len⟩
theorem UsP.push {ps : List PL} {i t : Nat} {vs : List Int} {us : Nat → List Int} (h : UsP ps i t vs us) (hi : i < ps.length) {v : Nat} (hv : vs[t]? = some (v : Int)) : UsP ps i (t + 1) vs (fun u => if u = v then us v ++ [(i : Int)] else us u) := by
  have hsub : ∀ (u : Nat) (k : Int), k ∈ us u → k ∈ (if u = v then us v ++ [(i : Int)] else us u) := fun u k hk => by
    by_cases e : u = v
    · subst e; rw [if_pos rfl]; exact List.mem_append_left _ hk
    · rw [if_neg e]; exact hk
  refine ⟨fun k hk hki w hw => hsub _ _ (h.old k hk hki w hw), fun j hj w hw => ?_, fun u k hk => ?_, fun u => ?_⟩
  · by_cases hjt : j < t
    · exact hsub _ _ (h.cur j hjt w hw)
    · obtain rfl : j = t := by omega
      rw [hv] at hw
      injection hw with hw
      subst hw
      rw [Int.toNat_natCast, if_pos rfl]; simp
  · by_cases e : u = v
    · rw [if_pos e] at hk
      rcases List.mem_append.1 hk with h1 | h1
      · exact h.ins v k h1
      · rw [List.mem_singleton.1 h1]; omega
    · rw [if_neg e] at hk; exact h.ins u k hk
  · have h1 := h.len v
    have h2 := h.len u
    split
    · rw [List.length_append, List.length_singleton]; omega
    · omega
set_option maxRecDepth 100000 in
theorem UsP.next {ps : List PL} {i : Nat} {us : Nat → List Int} (hi : i < ps.length) (h : UsP ps i (uniqL ps[i].all).length (uniqL ps[i].all) us) (hl : (uniqL ps[i].all).length ≤ 4096) (vs' : List Int) : UsP ps (i + 1) 0 vs' us :=
  ⟨fun k hk hki v hv => by
    by_cases e : k = i
    · subst e
      obtain ⟨j, hj, e⟩ := List.mem_iff_getElem.1 (mem_uniqL.2 hv)
      exact h.cur j hj v (by rw [List.getElem?_eq_getElem hj, e])
    · exact h.old k hk (by omega) v hv, fun _ h => absurd h (Nat.not_lt_zero _), h.ins, fun v => by
    have h1 := h.len v
    clear h
    generalize (us v).length = a at *
    generalize (uniqL ps[i].all).length = m at *
    rw [Nat.add_mul, Nat.one_mul]
    omega⟩
theorem UsP.done {ps : List PL} {vs : List Int} {us : Nat → List Int} (h : UsP ps ps.length 0 vs us) : UsOk ps ps.length us := ⟨fun k hk _ v hv => h.old k hk hk v hv, h.ins⟩
theorem allL_len (kind : Int) (vars : List Int) (x y z : Int) (vs : List Int) (h1 : vars.length ≤ 4095) (h2 : vs.length ≤ 4095) : (allL kind vars x y z vs).length ≤ 4096 := by
  unfold allL
  split
  · omega
  · split
    · simp
    · split
      · omega
      · split
        · simp; omega
        · simp
theorem all_len {p : PL} (h : p.ok) : (uniqL p.all).length ≤ 4096 := Nat.le_trans (uniqL_len _) (allL_len _ _ _ _ _ _ h.2.1 h.2.2)
/-- behind the queue's making -/
theorem QU.start {W2 : World} {H n : Nat} (hH : W2.heap.size = H) (hn : n ≤ 100) (vp : Value) (ps : List PL) (T1 T2 : TypeId) :
    QU W2 H n vp ps (((W2.alloc (.map #[] 0)).alloc (.cells #[.slice none 0 0, vp, .map (some H)] T1)).alloc (.cells (madeCells #[.slice none 0 0] n) T2)) (.slice none 0 0) [] 0 (fun _ => .slice none 0 0) (fun _ => []) := by
  subst hH
  have b1 : Below W2.heap.size W2 (W2.alloc (.map #[] 0)) := (Below.refl _ _).alloc (Nat.le_refl _) _
  have b2 := b1.alloc (by simp) (.cells #[.slice none 0 0, vp, .map (some W2.heap.size)] T1)
  have B2 : BoxL ((W2.alloc (.map #[] 0)).alloc (.cells #[.slice none 0 0, vp, .map (some W2.heap.size)] T1)) (W2.heap.size + 1) [.slice none 0 0, vp, .map (some W2.heap.size)] := by
    have h := BoxL.mk' (W2.alloc (.map #[] 0)) #[.slice none 0 0, vp, .map (some W2.heap.size)] T1
    rw [show (W2.alloc (.map #[] 0)).heap.size = W2.heap.size + 1 by simp] at h
    exact h
  generalize hWx : (W2.alloc (.map #[] 0)).alloc (.cells #[.slice none 0 0, vp, .map (some W2.heap.size)] T1) = Wx at *
  have hsx : Wx.heap.size = W2.heap.size + 2 := by rw [← hWx]; simp
  have bx : Below Wx.heap.size Wx (Wx.alloc (.cells (madeCells #[.slice none 0 0] n) T2)) := (Below.refl _ _).alloc (Nat.le_refl _) _
  have B3 := B2.below bx (by omega)
  obtain ⟨c0, f0⟩ := B3.get 0 (u := .slice none 0 0) rfl
  obtain ⟨c1, _⟩ := B3.get 1 (u := vp) rfl
  obtain ⟨c2, _⟩ := B3.get 2 (u := .map (some W2.heap.size)) rfl
  have hS0 : SetAt Tryz.prog 3 4 Wx W2.heap.size 0 (fun _ => false) := by
    rw [← hWx]
    exact (SetAt.made W2).later ((Below.refl _ _).alloc (Nat.le_refl _) _)
  have hS := hS0.later bx
  have ow := World.ownsRow_lit (base := 0) Wx (madeCells #[.slice none 0 0] n) n (e := T2) (size := 1) (Nat.zero_le _) (by unfold maxLen; omega) (by simp [size_madeCells])
  rw [toList_madeCells_one, hsx] at ow
  refine ⟨rfl, ⟨b2.trans (bx.mono (by omega)), by omega, by omega, fun b hb => by simp [Value.ownBlock] at hb, Nat.le_refl _⟩, QF.start c0 c1 c2 f0 (by omega) (by omega) (by omega) hS, ⟨fun v hv => ?_, fun v hv => ow.frozenAt v, fun v hv => World.ownsRow_nil _ _ _ _, fun u v b _ _ _ hb => by simp [Value.ownBlock] at hb, by omega⟩, fun v b _ hb => by simp [Value.ownBlock] at hb, fun k hk => by simp at hk, by simp; omega⟩
  rw [ow.cellAt v (by omega), List.getElem?_replicate_of_lt (by omega)]
/-- the variables that rel.Vars told, while the uses are made -/
structure VsAt (W : World) (H n : Nat) (v : Value) (vs : List Int) (vals : Nat → Value) : Prop where
  at' : IsAt W v vs
  ap : ∀ u b, u < n → (vals u).ownBlock = some b → v.ownBlock ≠ some b
  new : ∀ b, v.ownBlock = some b → H + 3 ≤ b
theorem VsAt.mk' {W2 : World} {H n : Nat} {vp : Value} {ps : List PL} {W W' : World} {pl : Value} {L : List Int} {c : Nat} {vals : Nat → Value} {us : Nat → List Int} (h : QU W2 H n vp ps W pl L c vals us) {v : Value} {vs : List Int} (hi : IsAt W' v vs) (hn : ∀ b, v.ownBlock = some b → W.heap.size ≤ b) : VsAt W' H n v vs vals :=
  ⟨hi, fun u b hu e e' => by have := (own_lt (h.u.own u hu) e).1; have := hn b e'; omega, fun b e => Nat.le_trans h.B (hn b e)⟩
theorem VsAt.push {W W1 : World} {H n : Nat} {x : Value} {vs : List Int} {vals : Nat → Value} (h : VsAt W H n x vs vals) {v : Nat} (hv : v < n) (hx : ∀ b, x.ownBlock = some b → b < W.heap.size) {r : Value} (hs : W.heap.size ≤ W1.heap.size)
    (kw : ∀ b, b < W.heap.size → (vals v).ownBlock ≠ some b → W1.heap[b]? = W.heap[b]?) (aw : ∀ b, r.ownBlock = some b → (vals v).ownBlock = some b ∨ W.heap.size ≤ b) :
    VsAt (W1.setCell ⟨H + 2, v, none⟩ r) H n x vs (fun u => if u = v then r else vals u) := by
  refine ⟨SlAt.ownB h.at' (by simpa [World.setCell] using hs) (fun b hb e => ?_), fun u b hu e => ?_, h.new⟩
  · have h1 := h.new b e
    exact (Below.heap_setCell _ _ _ _ (by dsimp only; omega)).trans (kw b hb (fun e' => h.ap v b hv e' e))
  · by_cases e1 : u = v
    · rw [if_pos e1] at e
      rcases aw b e with h1 | h1
      · exact h.ap v b hv h1
      · exact fun e' => by have := hx b e'; omega
    · rw [if_neg e1] at e
      exact h.ap u b hu e
end Go.Proofs.YtaekdgikgbdnnaaGreat
namespace Go.Proofs.YtaekdgikgbdnnaaGreat
open Go.RowKit

theorem valP_bnd {x : List Int} (h : ∀ v ∈ x, -200 ≤ v ∧ v ≤ 200) (n : Int) : -200 ≤ valP x n ∧ valP x n ≤ 200 := by
  unfold valP
  split
  · omega
  · rename_i hn
    have hl : n.toNat < x.length := by omega
    rw [List.getD_eq_getElem?_getD, List.getElem?_eq_getElem hl]
    exact h _ (List.getElem_mem hl)
theorem sumV_take (x : List Int) (ps : Ps) (k : Nat) (hk : k < ps.length) : sumV x (ps.take (k + 1)) = sumV x (ps.take k) + ps[k].1 * valP x ps[k].2 := by
  unfold sumV
  rw [List.take_succ_eq_append_getElem hk, List.map_append, List.sum_append]; simp
theorem sumV_bnd {x : List Int} (h : ∀ v ∈ x, -200 ≤ v ∧ v ≤ 200) : ∀ (ps : Ps), (∀ p ∈ ps, -100000 ≤ p.1 ∧ p.1 ≤ 100000) → -(20000000 * (ps.length : Int)) ≤ sumV x ps ∧ sumV x ps ≤ 20000000 * ps.length
  | [], _ => by simp [sumV]
  | p :: ps, hp => by
    have h1 := sumV_bnd h ps (fun q hq => hp q (List.mem_cons_of_mem _ hq))
    have h2 := mul_bnd (valP x p.2) p.1 100000 (valP_bnd h _) (hp p (by simp))
    unfold sumV at *
    rw [List.map_cons, List.sum_cons, List.length_cons]
    omega

end Go.Proofs.YtaekdgikgbdnnaaGreat
namespace Go.Proofs.YtaekdgikgbdnnaaGreat
open Go.RowKit

set_option maxRecDepth 100000 in
theorem value_any (vx : Value) (x : List Int) (n : Int) (w : World) (h : IsAt w vx x) (_hl : x.length ≤ 4096) :
    Calls Tryz.prog 57 #[vx, .int .i64 n] w fun e w' => e = .returned (.int .i64 (valP x n)) ∧ w = w' := by
  obtain ⟨a0, c0, rfl, _⟩ := IsAt.shape h
  unfold valP
  by_cases h1 : n < 0
  · rw [if_pos (.inl h1)]
    go_enter Tryz.func57, Tryz.ntmps57
    go_wp2
    go_ret
    exact ⟨rfl, rfl⟩
  by_cases h2 : (x.length : Int) ≤ n
  · rw [if_pos (.inr h2)]
    go_enter Tryz.func57, Tryz.ntmps57
    go_wp2
    go_ret
    exact ⟨rfl, rfl⟩
  · rw [if_neg (by omega)]
    obtain ⟨m, rfl⟩ : ∃ m : Nat, n = m := ⟨n.toNat, by omega⟩
    have hm : m < x.length := by omega
    obtain ⟨b, o, rfl, _, _, x0⟩ := h.get m hm
    have e0 : x.getD ((m : Int)).toNat 0 = x[m] := by simp [List.getD_eq_getElem?_getD, List.getElem?_eq_getElem hm]
    rw [e0]
    clear h e0
    generalize x[m] = z at *
    go_enter Tryz.func57, Tryz.ntmps57
    go_wp2
    go_ret
    exact ⟨rfl, rfl⟩

set_option maxRecDepth 100000 in
set_option maxHeartbeats 1600000 in
theorem stands_c (va vb vx : Value) (rel C : Int) (coef vars x : List Int) (w : World) (h0 : IsAt w va coef) (h1 : IsAt w vb vars) (hx : IsAt w vx x) (hlen : coef.length = vars.length) (hl16 : coef.length ≤ 16) (hcb : ∀ c ∈ coef, -100000 ≤ c ∧ c ≤ 100000)
    (hr : rel = 1 ∨ rel = 2 ∨ rel = 3) (_hC : -1099511627776 ≤ C ∧ C ≤ 1099511627776) (hxl : x.length ≤ 4096) (hxb : ∀ v ∈ x, -200 ≤ v ∧ v ≤ 200) :
    Calls Tryz.prog 56 #[.agg #[va, vb, .int .i64 rel, .int .i64 C], vx] w fun e w' => e = .returned (.bool (holdsS rel C (sumV x (coef.zip vars)))) ∧ Below w.heap.size w w' := by
  obtain ⟨a0, c0, rfl, _⟩ := IsAt.shape h0
  obtain ⟨a1, c1, rfl, _⟩ := IsAt.shape h1
  obtain ⟨a2, c2, rfl, _⟩ := IsAt.shape hx
  have hzl : (coef.zip vars).length = coef.length := by rw [List.length_zip]; omega
  rw [← hlen] at h1 ⊢
  obtain ⟨n, hn⟩ : ∃ n, n = coef.length := ⟨_, rfl⟩
  have HVB := Lib.hid (valP_bnd hxb)
  have HSB : Hid (∀ k, k ≤ 16 → -(320000000 : Int) ≤ sumV x ((coef.zip vars).take k) ∧ sumV x ((coef.zip vars).take k) ≤ 320000000) := fun k hk => by
    have := sumV_bnd hxb ((coef.zip vars).take k) (fun q hq => hcb _ (List.of_mem_zip (List.mem_of_mem_take hq)).1)
    have h2 : ((coef.zip vars).take k).length ≤ 16 := by rw [List.length_take]; omega
    omega
  have HST : Hid (∀ k, (hk : k < n) → ∃ cf v : Int, coef[k]? = some cf ∧ vars[k]? = some v ∧ (-100000 ≤ cf ∧ cf ≤ 100000) ∧ sumV x ((coef.zip vars).take (k + 1)) = sumV x ((coef.zip vars).take k) + cf * valP x v) := fun k hk => by
    have h1 : k < coef.length := by omega
    have h2 : k < vars.length := by omega
    have h3 : k < (coef.zip vars).length := by omega
    refine ⟨coef[k], vars[k], List.getElem?_eq_getElem h1, List.getElem?_eq_getElem h2, hcb _ (List.getElem_mem h1), ?_⟩
    rw [sumV_take x _ k h3, List.getElem_zip]
  have HZA : Hid (sumV x ((coef.zip vars).take n) = sumV x (coef.zip vars)) := by show _ = _; rw [hn, ← hzl, List.take_length]
  have HG0 : Hid (∀ k, k < n → ∀ cf, coef[k]? = some cf → ∃ b off, a0 = some ⟨b, off, none⟩ ∧ n ≤ c0 ∧ b < w.heap.size ∧ w.cell? ⟨b, off + k, none⟩ = some (.int .i64 cf)) := fun k hk cf hc => by
    obtain ⟨b, off, e1, e2, e3, e4⟩ := h0.get k (by omega)
    rw [List.getElem?_eq_getElem (by omega)] at hc
    injection hc with hc
    exact ⟨b, off, e1, by omega, e3, by rw [e4, hc]⟩
  have HG1 : Hid (∀ k, k < n → ∀ v, vars[k]? = some v → ∃ b off, a1 = some ⟨b, off, none⟩ ∧ n ≤ c1 ∧ b < w.heap.size ∧ w.cell? ⟨b, off + k, none⟩ = some (.int .i64 v)) := fun k hk v hc => by
    obtain ⟨b, off, e1, e2, e3, e4⟩ := h1.get k (by omega)
    rw [List.getElem?_eq_getElem (by omega)] at hc
    injection hc with hc
    exact ⟨b, off, e1, by omega, e3, by rw [e4, hc]⟩
  have CA : Hid (∀ n W, Below w.heap.size w W → Calls Tryz.prog 57 #[.slice a2 x.length c2, .int .i64 n] W fun e w' => e = .returned (.int .i64 (valP x n)) ∧ W = w') := fun n W h => value_any _ x n W (hx.below h) hxl
  have hn16 : n ≤ 16 := by omega
  rw [← hn] at *
  have HX := Lib.hid (BoxL.mk' w #[.slice a0 n c0, .slice a1 n c1, .int .i64 rel, .int .i64 C] 65)
  have HB : Hid (Below w.heap.size w (w.alloc (.cells #[.slice a0 n c0, .slice a1 n c1, .int .i64 rel, .int .i64 C] 65))) := (Below.refl _ _).alloc (Nat.le_refl _) _
  have S0 : Hid (sumV x ((coef.zip vars).take 0) = 0) := rfl
  clear h0 h1 hx hcb hlen hzl hxb hl16 hn
  obtain ⟨l0, _⟩ := HX.out.get 0 rfl
  obtain ⟨l1, _⟩ := HX.out.get 1 rfl
  go_enter Tryz.func56, Tryz.ntmps56
  go_wp2
  go_loopw [5, 6] (fun t s wr => ∃ k : Nat, k ≤ n ∧ s = .int .i64 k ∧ t = .int .i64 (sumV x ((coef.zip vars).take k)) ∧ Hid (BoxL wr w.heap.size [.slice a0 n c0, .slice a1 n c1, .int .i64 rel, .int .i64 C]) ∧ Hid (Below w.heap.size w wr)) (fun _ s _ => n - (intOf s).toNat)
  case atStart => exact ⟨0, by omega, rfl, by rw [S0.out], HX, HB⟩
  case round =>
    clear l0 l1 HX HB
    obtain ⟨k, hk, rfl, rfl, HX, HB⟩ := hrel
    obtain ⟨b1, b2⟩ := HSB.out k (by omega)
    by_cases hlt : k < n
    · obtain ⟨cf, v, e1, e2, hcf, hst⟩ := HST.out k hlt
      obtain ⟨g0, o0, rfl, q0, r0, y0⟩ := HG0.out k hlt cf e1
      obtain ⟨g1, o1, rfl, q1, r1, y1⟩ := HG1.out k hlt v e2
      rw [← HB.out.cell (p := ⟨g0, o0 + k, none⟩) r0] at y0
      rw [← HB.out.cell (p := ⟨g1, o1 + k, none⟩) r1] at y1
      obtain ⟨l0, _⟩ := HX.out.get 0 rfl
      obtain ⟨l1, _⟩ := HX.out.get 1 rfl
      obtain ⟨b3, b4⟩ := HSB.out (k + 1) (by omega)
      have hvb := HVB.out v
      have CA1 : Hid (∀ m, Calls Tryz.prog 57 #[.slice a2 x.length c2, .int .i64 v] (wr.drewN m) fun e w' => e = .returned (.int .i64 (valP x v)) ∧ wr.drewN m = w') := fun m => CA.out v _ (below_drewN HB.out m)
      have HS1 := Lib.hid hst
      rw [hst] at b3 b4
      clear hst e1 e2
      generalize sumV x ((coef.zip vars).take k) = S at *
      generalize valP x v = z at *
      have hm := mul_bnd z cf 100000 hvb hcf
      have j1 : (k : Int) < n := by omega
      have j4 : (k : Int) ≤ 16 := by omega
      have w1 := wrap_small (x := cf * z) (by omega)
      have w2 := wrap_small (x := S + cf * z) (by omega)
      go_wp2
      go_quiet ((go_at_call 57; exact quiet_here (CA1.out _)))
      clear w1 w2
      go_wp2
      exact ⟨⟨k + 1, by omega, by go_num, by rw [HS1.out], Lib.hid (HX.out.below (below_drewN (Below.refl _ _) _) (HX.out.lt (by simp))), Lib.hid (below_drewN HB.out _)⟩, by simp [intOf]; omega⟩
    · obtain rfl : k = n := by omega
      rw [HZA.out] at b1 b2 ⊢
      obtain ⟨l0, _⟩ := HX.out.get 0 rfl
      obtain ⟨l1, _⟩ := HX.out.get 1 rfl
      obtain ⟨l2, _⟩ := HX.out.get 2 rfl
      obtain ⟨l3, _⟩ := HX.out.get 3 rfl
      obtain ⟨S, hS⟩ : ∃ S, S = sumV x (coef.zip vars) := ⟨_, rfl⟩
      rw [← hS] at b1 b2 ⊢
      have HSM := Lib.hid hS
      clear hS
      rcases hr with rfl | rfl | rfl
      · go_wp2
        go_ret
        exact ⟨ret_bool (by rw [← HSM.out, Bool.eq_iff_iff]; simp [holdsS]; try omega), HB.out⟩
      · go_wp2
        go_ret
        exact ⟨ret_bool (by rw [← HSM.out, Bool.eq_iff_iff]; simp [holdsS]; try omega), HB.out⟩
      · go_wp2
        go_ret
        exact ⟨ret_bool (by rw [← HSM.out, Bool.eq_iff_iff]; simp [holdsS]; try omega), HB.out⟩

end Go.Proofs.YtaekdgikgbdnnaaGreat
namespace Go.Proofs.YtaekdgikgbdnnaaGreat
open Go.RowKit

end Go.Proofs.YtaekdgikgbdnnaaGreat
namespace Go.Proofs.YtaekdgikgbdnnaaGreat
open Go.RowKit

def unlikeTo (x : List Int) (l : List Int) (k : Nat) : Bool := (List.range k).all fun i => (List.range i).all fun j => decide (valP x (l.getD j 0) ≠ valP x (l.getD i 0))
theorem unlikeTo_all (x l : List Int) : unlikeTo x l l.length = unlike x l := rfl
end Go.Proofs.YtaekdgikgbdnnaaGreat
namespace Go.Proofs.YtaekdgikgbdnnaaGreat
open Go.RowKit

end Go.Proofs.YtaekdgikgbdnnaaGreat
namespace Go.Proofs.YtaekdgikgbdnnaaGreat
open Go.RowKit

set_option maxRecDepth 100000 in
set_option maxHeartbeats 3200000 in
theorem refHolds1_c (va vb vv vx : Value) (rel c x y z : Int) (coef vars vs xs : List Int) (ds : Ds) (w : World) (h0 : IsAt w va coef) (h1 : IsAt w vb vars) (h2 : IsAt w vv vs) (hx : IsAt w vx xs) (hf : (PL.mk 1 rel c x y z coef vars vs).Fine ds) (hxl : xs.length ≤ 4096) (hxb : ∀ v ∈ xs, -200 ≤ v ∧ v ≤ 200) :
    Calls Tryz.prog 37 #[propV 1 va vb rel c x y z vv, vx] w fun e w' => e = .returned (.bool (holdsP (PL.mk 1 rel c x y z coef vars vs) xs)) ∧ Below w.heap.size w w' := by
  obtain ⟨a0, c0, rfl, _⟩ := IsAt.shape h0
  obtain ⟨a1, c1, rfl, _⟩ := IsAt.shape h1
  obtain ⟨a2, c2, rfl, _⟩ := IsAt.shape h2
  obtain ⟨a3, c3, rfl, _⟩ := IsAt.shape hx
  have HZ : Hid (Below w.heap.size w (w.alloc (.cells #[.int .i64 1, .slice a0 coef.length c0, .slice a1 vars.length c1, .int .i64 rel, .int .i64 c, .int .i64 x, .int .i64 y, .int .i64 z, .slice a2 vs.length c2] 67))) := (Below.refl _ _).alloc (Nat.le_refl _) _
  have HX := Lib.hid (BoxL.mk' w #[.int .i64 1, .slice a0 coef.length c0, .slice a1 vars.length c1, .int .i64 rel, .int .i64 c, .int .i64 x, .int .i64 y, .int .i64 z, .slice a2 vs.length c2] 67)
  have hval : holdsP (PL.mk 1 rel c x y z coef vars vs) xs = holdsS rel c (sumV xs (coef.zip vars)) := by unfold holdsP; simp
  rw [hval]
  clear hval
  have CV : Hid (∀ n W, Below w.heap.size w W → Calls Tryz.prog 57 #[.slice a3 xs.length c3, .int .i64 n] W fun e w' => e = .returned (.int .i64 (valP xs n)) ∧ W = w') := fun n W h => value_any _ xs n W (hx.below h) hxl
  have CS : Hid (∀ W, Below w.heap.size w W → Calls Tryz.prog 56 #[.agg #[.slice a0 coef.length c0, .slice a1 vars.length c1, .int .i64 rel, .int .i64 c], .slice a3 xs.length c3] W fun e w' => e = .returned (.bool (holdsS rel c (sumV xs (coef.zip vars)))) ∧ Below W.heap.size W w') := fun W h =>
    stands_c _ _ _ rel c coef vars xs W (h0.below h) (h1.below h) (hx.below h) (hf.lin (.inl rfl)).1.len (hf.lin (.inl rfl)).1.le16 (hf.lin (.inl rfl)).1.coefs (hf.lin (.inl rfl)).2.1 (hf.lin (.inl rfl)).2.2.1 hxl hxb
  obtain ⟨V, hV⟩ : ∃ V, V = holdsS rel c (sumV xs (coef.zip vars)) := ⟨_, rfl⟩
  rw [← hV] at CS ⊢
  clear hV
  clear h0 h1 h2 hx hf hxb CV
  obtain ⟨l0, _⟩ := HX.out.get 0 rfl
  obtain ⟨l1, _⟩ := HX.out.get 1 rfl
  obtain ⟨l2, _⟩ := HX.out.get 2 rfl
  obtain ⟨l3, _⟩ := HX.out.get 3 rfl
  obtain ⟨l4, _⟩ := HX.out.get 4 rfl
  unfold propV
  go_enter Tryz.func37, Tryz.ntmps37
  go_wp2_with (go_at_call 56; (with_reducible refine (CS.out _ HZ.out).mono ?_); rintro e W1 ⟨rfl, bb⟩; have B1 := Lib.hid (HZ.out.trans (bb.mono HZ.out.size)); clear bb)
  go_ret
  exact ⟨rfl, B1.out⟩

set_option maxRecDepth 100000 in
set_option maxHeartbeats 3200000 in
theorem refHolds2_c (va vb vv vx : Value) (rel c x y z : Int) (coef vars vs xs : List Int) (ds : Ds) (w : World) (h0 : IsAt w va coef) (h1 : IsAt w vb vars) (h2 : IsAt w vv vs) (hx : IsAt w vx xs) (_hf : (PL.mk 2 rel c x y z coef vars vs).Fine ds) (hxl : xs.length ≤ 4096) (hxb : ∀ v ∈ xs, -200 ≤ v ∧ v ≤ 200) :
    Calls Tryz.prog 37 #[propV 2 va vb rel c x y z vv, vx] w fun e w' => e = .returned (.bool (holdsP (PL.mk 2 rel c x y z coef vars vs) xs)) ∧ Below w.heap.size w w' := by
  obtain ⟨a0, c0, rfl, _⟩ := IsAt.shape h0
  obtain ⟨a1, c1, rfl, _⟩ := IsAt.shape h1
  obtain ⟨a2, c2, rfl, _⟩ := IsAt.shape h2
  obtain ⟨a3, c3, rfl, _⟩ := IsAt.shape hx
  have HZ : Hid (Below w.heap.size w (w.alloc (.cells #[.int .i64 2, .slice a0 coef.length c0, .slice a1 vars.length c1, .int .i64 rel, .int .i64 c, .int .i64 x, .int .i64 y, .int .i64 z, .slice a2 vs.length c2] 67))) := (Below.refl _ _).alloc (Nat.le_refl _) _
  have HX := Lib.hid (BoxL.mk' w #[.int .i64 2, .slice a0 coef.length c0, .slice a1 vars.length c1, .int .i64 rel, .int .i64 c, .int .i64 x, .int .i64 y, .int .i64 z, .slice a2 vs.length c2] 67)
  have hval : holdsP (PL.mk 2 rel c x y z coef vars vs) xs = decide (valP xs x * valP xs y = valP xs z) := by unfold holdsP; simp
  rw [hval]
  clear hval
  have CV : Hid (∀ n W, Below w.heap.size w W → Calls Tryz.prog 57 #[.slice a3 xs.length c3, .int .i64 n] W fun e w' => e = .returned (.int .i64 (valP xs n)) ∧ W = w') := fun n W h => value_any _ xs n W (hx.below h) hxl
  have CA : Hid (∀ n m, Calls Tryz.prog 57 #[.slice a3 xs.length c3, .int .i64 n] ((w.alloc (.cells #[.int .i64 2, .slice a0 coef.length c0, .slice a1 vars.length c1, .int .i64 rel, .int .i64 c, .int .i64 x, .int .i64 y, .int .i64 z, .slice a2 vs.length c2] 67)).drewN m) fun e w' => e = .returned (.int .i64 (valP xs n)) ∧ (w.alloc (.cells #[.int .i64 2, .slice a0 coef.length c0, .slice a1 vars.length c1, .int .i64 rel, .int .i64 c, .int .i64 x, .int .i64 y, .int .i64 z, .slice a2 vs.length c2] 67)).drewN m = w') := fun n m => CV.out n _ (below_drewN HZ.out m)
  have CA1 := Lib.hid (CA.out x)
  have CA2 := Lib.hid (CA.out y)
  have CA3 := Lib.hid (CA.out z)
  have ha := valP_bnd hxb x
  have hb := valP_bnd hxb y
  have hm := mul_bnd2 _ _ ha hb
  clear h0 h1 h2 hx _hf hxb CV CA
  obtain ⟨l0, _⟩ := HX.out.get 0 rfl
  obtain ⟨l5, _⟩ := HX.out.get 5 rfl
  obtain ⟨l6, _⟩ := HX.out.get 6 rfl
  obtain ⟨l7, _⟩ := HX.out.get 7 rfl
  generalize valP xs x = p at *
  generalize valP xs y = q at *
  generalize valP xs z = r at *
  have w1 := wrap_small (x := p * q) (by omega)
  unfold propV
  go_enter Tryz.func37, Tryz.ntmps37
  go_wp2
  go_quiet ((first | (go_at_call 57; with_reducible exact quiet_here (CA1.out _)) | (go_at_call 57; with_reducible exact quiet_here (CA2.out _)) | (go_at_call 57; with_reducible exact quiet_here (CA3.out _))))
  go_wp2
  go_ret
  exact ⟨ret_bool rfl, below_drewN HZ.out _⟩

set_option maxRecDepth 100000 in
set_option maxHeartbeats 3200000 in
theorem refHolds3_c (va vb vv vx : Value) (rel c x y z : Int) (coef vars vs xs : List Int) (ds : Ds) (w : World) (h0 : IsAt w va coef) (h1 : IsAt w vb vars) (h2 : IsAt w vv vs) (hx : IsAt w vx xs) (hf : (PL.mk 3 rel c x y z coef vars vs).Fine ds) (hxl : xs.length ≤ 4096) (_hxb : ∀ v ∈ xs, -200 ≤ v ∧ v ≤ 200) :
    Calls Tryz.prog 37 #[propV 3 va vb rel c x y z vv, vx] w fun e w' => e = .returned (.bool (holdsP (PL.mk 3 rel c x y z coef vars vs) xs)) ∧ Below w.heap.size w w' := by
  obtain ⟨a0, c0, rfl, _⟩ := IsAt.shape h0
  obtain ⟨a1, c1, rfl, _⟩ := IsAt.shape h1
  obtain ⟨a2, c2, rfl, _⟩ := IsAt.shape h2
  obtain ⟨a3, c3, rfl, _⟩ := IsAt.shape hx
  have HZ : Hid (Below w.heap.size w (w.alloc (.cells #[.int .i64 3, .slice a0 coef.length c0, .slice a1 vars.length c1, .int .i64 rel, .int .i64 c, .int .i64 x, .int .i64 y, .int .i64 z, .slice a2 vs.length c2] 67))) := (Below.refl _ _).alloc (Nat.le_refl _) _
  have HX := Lib.hid (BoxL.mk' w #[.int .i64 3, .slice a0 coef.length c0, .slice a1 vars.length c1, .int .i64 rel, .int .i64 c, .int .i64 x, .int .i64 y, .int .i64 z, .slice a2 vs.length c2] 67)
  have hval : holdsP (PL.mk 3 rel c x y z coef vars vs) xs = unlike xs vs := by unfold holdsP; simp
  rw [hval]
  clear hval
  have CV : Hid (∀ n W, Below w.heap.size w W → Calls Tryz.prog 57 #[.slice a3 xs.length c3, .int .i64 n] W fun e w' => e = .returned (.int .i64 (valP xs n)) ∧ W = w') := fun n W h => value_any _ xs n W (hx.below h) hxl
  have hvl : vs.length ≤ 64 := hf.vsl rfl
  have H2 := Lib.hid h2
  have HUA := Lib.hid (unlikeTo_all xs vs)
  have HUS : Hid (∀ i, (hi : i < vs.length) → ∀ k, k ≤ i → ((List.range k).all fun j => decide (valP xs (vs.getD j 0) ≠ valP xs (vs.getD i 0))) = true → k = i → unlikeTo xs vs i = true → unlikeTo xs vs (i + 1) = true) := fun i hi k hk h e hu => by
    subst e
    unfold unlikeTo at *
    rw [List.range_succ, List.all_append, hu, List.all_cons, h]; rfl
  have HUF : Hid (∀ i j, i < vs.length → j < i → valP xs (vs.getD j 0) = valP xs (vs.getD i 0) → unlike xs vs = false) := fun i j hi hj he => by
    cases hu : unlike xs vs with
    | false => rfl
    | true => exact absurd he (unlike_iff.1 hu i j hi (by omega) (by omega))
  clear h0 h1 h2 hx hf _hxb
  obtain ⟨l0, _⟩ := HX.out.get 0 rfl
  unfold propV
  go_enter Tryz.func37, Tryz.ntmps37
  go_wp2
  go_loopw [5] (fun s wr => ∃ i : Nat, i ≤ vs.length ∧ s = .int .i64 i ∧ Hid (unlikeTo xs vs i = true) ∧ Hid (BoxL wr w.heap.size #[.int .i64 3, .slice a0 coef.length c0, .slice a1 vars.length c1, .int .i64 rel, .int .i64 c, .int .i64 x, .int .i64 y, .int .i64 z, .slice a2 vs.length c2].toList) ∧ Hid (Below w.heap.size w wr)) (fun s _ => vs.length - (intOf s).toNat)
  case atStart => exact ⟨0, by omega, rfl, rfl, HX, HZ⟩
  case round =>
    clear l0 HX HZ
    obtain ⟨i, hi, rfl, HU, HX, HZ⟩ := hrel
    obtain ⟨l8, _⟩ := HX.out.get 8 rfl
    by_cases hlt : i < vs.length
    · have j1 : (i : Int) < vs.length := by omega
      obtain ⟨wo, hwo⟩ : ∃ wo : World, wo = wr := ⟨_, rfl⟩
      subst hwo
      obtain ⟨b2, o2, rfl, q2, r2, y2⟩ := H2.out.get i hlt
      have Y2 := Lib.hid y2
      clear y2
      go_wp2
      go_loopw [6] (fun s wi => ∃ k : Nat, k ≤ i ∧ s = .int .i64 k ∧ Hid (((List.range k).all fun j => decide (valP xs (vs.getD j 0) ≠ valP xs (vs.getD i 0))) = true) ∧ Hid (BoxL wi w.heap.size #[.int .i64 3, .slice a0 coef.length c0, .slice a1 vars.length c1, .int .i64 rel, .int .i64 c, .int .i64 x, .int .i64 y, .int .i64 z, .slice (some ⟨b2, o2, none⟩) vs.length c2].toList) ∧ Hid (Below w.heap.size w wi)) (fun s _ => i - (intOf s).toNat)
      case atStart => exact ⟨0, by omega, rfl, rfl, HX, HZ⟩
      case round =>
        clear l8 HX HZ
        obtain ⟨k, hk, rfl, HK, HX, HZ⟩ := hrel
        obtain ⟨l8, _⟩ := HX.out.get 8 rfl
        by_cases hlk : k < i
        · have hkl : k < vs.length := by omega
          obtain ⟨b3, o3, he3, _, r3, y3⟩ := H2.out.get k hkl
          simp only [Option.some.injEq, Addr.mk.injEq, and_true] at he3
          obtain ⟨rfl, rfl⟩ := he3
          have x2 := (HZ.out.cell (p := ⟨b2, o2 + i, none⟩) r2).trans Y2.out
          have x3 := (HZ.out.cell (p := ⟨b2, o2 + k, none⟩) r3).trans y3
          have e2 : vs.getD i 0 = vs[i] := by simp [List.getD_eq_getElem?_getD, List.getElem?_eq_getElem hlt]
          have e3 : vs.getD k 0 = vs[k] := by simp [List.getD_eq_getElem?_getD, List.getElem?_eq_getElem hkl]
          have CA2 : Hid (∀ m, Calls Tryz.prog 57 #[.slice a3 xs.length c3, .int .i64 vs[i]] (wr.drewN m) fun e w' => e = .returned (.int .i64 (valP xs vs[i])) ∧ wr.drewN m = w') := fun m => CV.out _ _ (below_drewN HZ.out m)
          have CA3 : Hid (∀ m, Calls Tryz.prog 57 #[.slice a3 xs.length c3, .int .i64 vs[k]] (wr.drewN m) fun e w' => e = .returned (.int .i64 (valP xs vs[k])) ∧ wr.drewN m = w') := fun m => CV.out _ _ (below_drewN HZ.out m)
          have UF : Hid (valP xs vs[k] = valP xs vs[i] → unlike xs vs = false) := fun h => HUF.out i k hlt hlk (by rw [e2, e3]; exact h)
          have KS : Hid (¬ valP xs vs[k] = valP xs vs[i] → ((List.range (k + 1)).all fun j => decide (valP xs (vs.getD j 0) ≠ valP xs (vs.getD i 0))) = true) := fun h => by
            rw [List.range_succ, List.all_append, HK.out, List.all_cons, e2, e3]; simp [h]
          have j2 : (k : Int) < vs.length := by omega
          have j3 : (k : Int) < i := by omega
          clear e2 e3 y3
          generalize vs[i] = v2 at *
          generalize vs[k] = v3 at *
          generalize valP xs v2 = z2 at *
          generalize valP xs v3 = z3 at *
          by_cases hz : z3 = z2
          · have hzb : (z3 == z2) = true := by simpa using hz
            have UFF := Lib.hid (UF.out hz)
            clear hz
            go_wp2
            go_quiet ((first | (go_at_call 57; with_reducible exact quiet_here (CA2.out _)) | (go_at_call 57; with_reducible exact quiet_here (CA3.out _))))
            go_wp2
            go_ret
            exact ⟨ret_bool UFF.out.symm, below_drewN HZ.out _⟩
          · have hzb : (z3 == z2) = false := beqf hz
            have KSS := Lib.hid (KS.out hz)
            go_wp2
            go_quiet ((first | (go_at_call 57; with_reducible exact quiet_here (CA2.out _)) | (go_at_call 57; with_reducible exact quiet_here (CA3.out _))))
            go_wp2
            exact ⟨⟨k + 1, by omega, by go_num, KSS, Lib.hid (HX.out.below (below_drewN (Below.refl _ _) _) (HX.out.lt (by simp))), Lib.hid (below_drewN HZ.out _)⟩, by simp [intOf]; omega⟩
        · obtain rfl : k = i := by omega
          have HU2 := Lib.hid (HUS.out k hlt k (Nat.le_refl _) HK.out rfl HU.out)
          go_wp2
          exact ⟨⟨k + 1, by omega, by go_num, HU2, HX, HZ⟩, by simp [intOf]; omega⟩
    · obtain rfl : i = vs.length := by omega
      rw [HUA.out] at HU
      go_wp2
      go_ret
      exact ⟨ret_bool HU.out.symm, HZ.out⟩

set_option maxRecDepth 100000 in
set_option maxHeartbeats 3200000 in
theorem refHolds4_c (va vb vv vx : Value) (rel c x y z : Int) (coef vars vs xs : List Int) (ds : Ds) (w : World) (h0 : IsAt w va coef) (h1 : IsAt w vb vars) (h2 : IsAt w vv vs) (hx : IsAt w vx xs) (hf : (PL.mk 4 rel c x y z coef vars vs).Fine ds) (hxl : xs.length ≤ 4096) (hxb : ∀ v ∈ xs, -200 ≤ v ∧ v ≤ 200) :
    Calls Tryz.prog 37 #[propV 4 va vb rel c x y z vv, vx] w fun e w' => e = .returned (.bool (holdsP (PL.mk 4 rel c x y z coef vars vs) xs)) ∧ Below w.heap.size w w' := by
  obtain ⟨a0, c0, rfl, _⟩ := IsAt.shape h0
  obtain ⟨a1, c1, rfl, _⟩ := IsAt.shape h1
  obtain ⟨a2, c2, rfl, _⟩ := IsAt.shape h2
  obtain ⟨a3, c3, rfl, _⟩ := IsAt.shape hx
  have HZ : Hid (Below w.heap.size w (w.alloc (.cells #[.int .i64 4, .slice a0 coef.length c0, .slice a1 vars.length c1, .int .i64 rel, .int .i64 c, .int .i64 x, .int .i64 y, .int .i64 z, .slice a2 vs.length c2] 67))) := (Below.refl _ _).alloc (Nat.le_refl _) _
  have HX := Lib.hid (BoxL.mk' w #[.int .i64 4, .slice a0 coef.length c0, .slice a1 vars.length c1, .int .i64 rel, .int .i64 c, .int .i64 x, .int .i64 y, .int .i64 z, .slice a2 vs.length c2] 67)
  have hval : holdsP (PL.mk 4 rel c x y z coef vars vs) xs = ((decide (valP xs x = 1) && holdsS rel c (sumV xs (coef.zip vars))) || (decide (valP xs x = 0) && !holdsS rel c (sumV xs (coef.zip vars)))) := by unfold holdsP; simp
  rw [hval]
  clear hval
  have CV : Hid (∀ n W, Below w.heap.size w W → Calls Tryz.prog 57 #[.slice a3 xs.length c3, .int .i64 n] W fun e w' => e = .returned (.int .i64 (valP xs n)) ∧ W = w') := fun n W h => value_any _ xs n W (hx.below h) hxl
  have CS : Hid (∀ W, Below w.heap.size w W → Calls Tryz.prog 56 #[.agg #[.slice a0 coef.length c0, .slice a1 vars.length c1, .int .i64 rel, .int .i64 c], .slice a3 xs.length c3] W fun e w' => e = .returned (.bool (holdsS rel c (sumV xs (coef.zip vars)))) ∧ Below W.heap.size W w') := fun W h =>
    stands_c _ _ _ rel c coef vars xs W (h0.below h) (h1.below h) (hx.below h) (hf.lin (.inr rfl)).1.len (hf.lin (.inr rfl)).1.le16 (hf.lin (.inr rfl)).1.coefs (hf.lin (.inr rfl)).2.1 (hf.lin (.inr rfl)).2.2.1 hxl hxb
  obtain ⟨V, hV⟩ : ∃ V, V = holdsS rel c (sumV xs (coef.zip vars)) := ⟨_, rfl⟩
  rw [← hV] at CS ⊢
  clear hV
  have CV1 := Lib.hid (CV.out x _ HZ.out)
  obtain ⟨n, hn⟩ : ∃ n, n = valP xs x := ⟨_, rfl⟩
  rw [← hn] at CV1 ⊢
  clear hn h0 h1 h2 hx hf hxb CV
  obtain ⟨l0, _⟩ := HX.out.get 0 rfl
  obtain ⟨l1, _⟩ := HX.out.get 1 rfl
  obtain ⟨l2, _⟩ := HX.out.get 2 rfl
  obtain ⟨l3, _⟩ := HX.out.get 3 rfl
  obtain ⟨l4, _⟩ := HX.out.get 4 rfl
  obtain ⟨l5, _⟩ := HX.out.get 5 rfl
  unfold propV
  by_cases e1 : n = 1
  · subst e1
    cases V <;>
    · go_enter Tryz.func37, Tryz.ntmps37
      go_wp2_with (first
        | (go_at_call 57; (with_reducible refine CV1.out.mono ?_); rintro e w' ⟨rfl, rfl⟩)
        | (go_at_call 56; (with_reducible refine (CS.out _ HZ.out).mono ?_); rintro e W1 ⟨rfl, bb⟩; have B1 := Lib.hid (HZ.out.trans (bb.mono HZ.out.size)); clear bb))
      go_ret
      exact ⟨ret_bool (by simp), B1.out⟩
  by_cases e0 : n = 0
  · subst e0
    cases V <;>
    · go_enter Tryz.func37, Tryz.ntmps37
      go_wp2_with (first
        | (go_at_call 57; (with_reducible refine CV1.out.mono ?_); rintro e w' ⟨rfl, rfl⟩)
        | (go_at_call 56; (with_reducible refine (CS.out _ HZ.out).mono ?_); rintro e W1 ⟨rfl, bb⟩; have B1 := Lib.hid (HZ.out.trans (bb.mono HZ.out.size)); clear bb))
      go_ret
      exact ⟨ret_bool (by simp), B1.out⟩
  · have g1 : (n == 1) = false := beqf e1
    have g0 : (n == 0) = false := beqf e0
    go_enter Tryz.func37, Tryz.ntmps37
    go_wp2_with (first
      | (go_at_call 57; (with_reducible refine CV1.out.mono ?_); rintro e w' ⟨rfl, rfl⟩))
    go_ret
    exact ⟨ret_bool (by simp [e1, e0]), HZ.out⟩

theorem refHolds_c (kind : Int) (va vb vv vx : Value) (rel c x y z : Int) (coef vars vs xs : List Int) (ds : Ds) (w : World) (h0 : IsAt w va coef) (h1 : IsAt w vb vars) (h2 : IsAt w vv vs) (hx : IsAt w vx xs) (hf : (PL.mk kind rel c x y z coef vars vs).Fine ds) (hxl : xs.length ≤ 4096) (hxb : ∀ v ∈ xs, -200 ≤ v ∧ v ≤ 200) :
    Calls Tryz.prog 37 #[propV kind va vb rel c x y z vv, vx] w fun e w' => e = .returned (.bool (holdsP (PL.mk kind rel c x y z coef vars vs) xs)) ∧ Below w.heap.size w w' := by
  rcases hf.kind with h | h | h | h
  · dsimp only at h; subst h; exact refHolds1_c va vb vv vx rel c x y z coef vars vs xs ds w h0 h1 h2 hx hf hxl hxb
  · dsimp only at h; subst h; exact refHolds2_c va vb vv vx rel c x y z coef vars vs xs ds w h0 h1 h2 hx hf hxl hxb
  · dsimp only at h; subst h; exact refHolds3_c va vb vv vx rel c x y z coef vars vs xs ds w h0 h1 h2 hx hf hxl hxb
  · dsimp only at h; subst h; exact refHolds4_c va vb vv vx rel c x y z coef vars vs xs ds w h0 h1 h2 hx hf hxl hxb
end Go.Proofs.YtaekdgikgbdnnaaGreat
