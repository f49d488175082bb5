/-
  The reference's Once of layer 16, of any constraint that Check has let by.
  PLAIN LAWS of the document's rounds: what is marked; no program.
  LISTS OF MARKS IN MEMORY; coneyref17.named, walked.
  coneyref17.Fix, walked: it comes to the greatest sets at which no constraint says anything new.
-/
import Derived.Test.YtajooiainglpmaaGreatKoncea4
import Derived.Test.YtajooiainglpmaaGreatKoncea5
import Derived.Test.YtajooiainglpmaaGreatKoncea6
import Derived.Test.YtajooiainglpmaaGreatKonce10
import Derived.Test.YtajooiainglpmaaGreatKrel1
import Derived.Test.YtajooiainglpmaaGreatKfix1
import Derived.Test.YtajooiainglpmaaGreatKlin2
import Derived.Deep.CutBlock
import Derived.Deep.DeepCutAuto
namespace Go.Proofs.YtajooiainglpmaaGreat
open Go.RowKit

theorem refOnce_all (p : PL) (va vb vv vds : Value) (ds : Ds) (w : World) (h0 : IsAt w va p.coef) (h1 : IsAt w vb p.vars) (h2 : IsAt w vv p.vs) (hd : DsAt w vds ds)
    (hf : p.Fine ds) (hdl : ds.length ≤ 4096) (hdm : ∀ d ∈ ds, d.length ≤ 4096) (hl1 : p.vars.length ≤ 4095) (hl2 : p.vs.length ≤ 4095) :
    Calls Tryz.prog 13 #[propV p.kind va vb p.rel p.c p.x p.y p.z vv, vds] w (RetO (onceP p ds) w) := by
  obtain ⟨kind, rel, c, x, y, z, coef, vars, vs⟩ := p
  dsimp only at h0 h1 h2 hl1 hl2 ⊢
  have hk := hf.kind
  dsimp only at hk
  rcases hk with rfl | rfl | rfl | rfl
  · exact refOnce1_c va vb vv vds rel c x y z coef vars vs ds w h0 h1 h2 hd hf hdl hdm hl1 hl2
  · exact refOnce2_c va vb vv vds rel c x y z coef vars vs ds w h0 h1 h2 hd hf hdl hdm hl1 hl2
  · exact refOnce3_c va vb vv vds rel c x y z coef vars vs ds w h0 h1 h2 hd hf hdl hdm hl1 hl2
  · exact refOnce4_c va vb vv vds rel c x y z coef vars vs ds w h0 h1 h2 hd hf hdl hdm hl1 hl2
end Go.Proofs.YtajooiainglpmaaGreat
namespace Go.Proofs.YtajooiainglpmaaGreat

/-- is one of some variables marked? -/
def marked (vs : List Int) (on : List Bool) : Bool := vs.any fun v => on.getD v.toNat false
theorem marked_mono {vs : List Int} {on nx : List Bool} (h : ∀ j, on.getD j false = true → nx.getD j false = true) (hm : marked vs on = true) : marked vs nx = true := by
  unfold marked at *
  rw [List.any_eq_true] at hm ⊢
  obtain ⟨v, h1, h2⟩ := hm
  exact ⟨v, h1, h _ h2⟩
theorem marked_of {vs : List Int} {on : List Bool} {v : Int} (h : v ∈ vs) (ho : on.getD v.toNat false = true) : marked vs on = true := by
  unfold marked; rw [List.any_eq_true]; exact ⟨v, h, ho⟩
/-- in the midst of a round -/
structure Rnd (ps : List PL) (D was now : Ds) (r : Nat) (on nx : List Bool) (i : Nat) : Prop where
  way : OnWay ps D now
  wasN : AllN was
  len : now.length = was.length
  done : ∀ k, (hk : k < ps.length) → k < i → onceP ps[k] now = some now ∨ marked (uniqL ps[k].all) nx = true
  todo : ∀ k, (hk : k < ps.length) → i ≤ k → r = 0 ∨ onceP ps[k] now = some now ∨ marked (uniqL ps[k].all) on = true ∨ marked (uniqL ps[k].all) nx = true
  le : LeD now was
  mks : ∀ j, nx.getD j false = true → now ≠ was
theorem Rnd.skip {ps : List PL} {D was now : Ds} {r : Nat} {on nx : List Bool} {i : Nat} (h : Rnd ps D was now r on nx i) (hi : i < ps.length) (hr : r ≠ 0) (h1 : marked (uniqL ps[i].all) on = false) (h2 : marked (uniqL ps[i].all) nx = false) : Rnd ps D was now r on nx (i + 1) :=
  ⟨h.way, h.wasN, h.len, fun k hk hki => by
    by_cases e : k = i
    · subst e
      rcases h.todo k hk (Nat.le_refl _) with a | a | a | a
      · exact absurd a hr
      · exact .inl a
      · rw [h1] at a; cases a
      · rw [h2] at a; cases a
    · exact h.done k hk (by omega), fun k hk hki => h.todo k hk (by omega), h.le, h.mks⟩
/-- what is marked behind a constraint that was asked -/
structure MarkOf (now d : Ds) (vs : List Int) (nx nx2 : List Bool) : Prop where
  mono : ∀ j, nx.getD j false = true → nx2.getD j false = true
  all : ∀ v ∈ vs, domOf d v ≠ domOf now v → nx2.getD v.toNat false = true
  just : ∀ j, nx2.getD j false = true → nx.getD j false = true ∨ d ≠ now
theorem LeD.once {p : PL} {now d : Ds} (hn : AllN now) (ho : onceP p now = some d) : LeD d now := fun j x hx => by have := onceP_sub ho j x hx; rwa [norm_getD hn] at this
theorem Rnd.ask {ps : List PL} {D was now d : Ds} {r : Nat} {on nx nx2 : List Bool} {i : Nat} (h : Rnd ps D was now r on nx i) (hg : ∀ p ∈ ps, p.Good D.length) (hi : i < ps.length) (ho : onceP ps[i] now = some d) (hm : MarkOf now d (uniqL ps[i].all) nx nx2) : Rnd ps D was d r on nx2 (i + 1) := by
  have hn := h.way.nor
  have hl := h.way.len
  have hg' : ∀ k, (hk : k < ps.length) → ps[k].Good now.length := fun k hk => by rw [hl]; exact hg _ (List.getElem_mem hk)
  have step : ∀ k, (hk : k < ps.length) → onceP ps[k] now = some now → onceP ps[k] d = some d ∨ marked (uniqL ps[k].all) nx2 = true := fun k hk hs => by
    by_cases hc : ∀ v ∈ ps[k].all, v ∈ ps[i].all → domOf d v = domOf now v
    · exact .inl (stable_on hn (hg' i hi) (hg' k hk) ho hs hc)
    · right
      apply Classical.byContradiction
      intro hno
      apply hc
      intro v hv hvi
      apply Classical.byContradiction
      intro hne
      exact hno (marked_of (mem_uniqL.2 hv) (hm.all v (mem_uniqL.2 hvi) hne))
  have hself : onceP ps[i] d = some d ∨ marked (uniqL ps[i].all) nx2 = true := by
    by_cases hc : ∀ v ∈ ps[i].all, domOf d v = domOf now v
    · have e := same_of hn (hg' i hi) ho hc
      left; rw [e] at ho ⊢; exact ho
    · right
      apply Classical.byContradiction
      intro hno
      apply hc
      intro v hv
      apply Classical.byContradiction
      intro hne
      exact hno (marked_of (mem_uniqL.2 hv) (hm.all v (mem_uniqL.2 hv) hne))
  have hle := LeD.once hn ho
  refine ⟨onWay_step (List.getElem_mem hi) (hg _ (List.getElem_mem hi)) h.way ho, h.wasN, (onceP_len ho).trans h.len, fun k hk hki => ?_, fun k hk hki => ?_, hle.trans h.le, fun j hj e => ?_⟩
  · by_cases e : k = i
    · subst e; exact hself
    · rcases h.done k hk (by omega) with a | a
      · exact step k hk a
      · exact .inr (marked_mono hm.mono a)
  · rcases h.todo k hk (by omega) with a | a | a | a
    · exact .inl a
    · rcases step k hk a with b | b
      · exact .inr (.inl b)
      · exact .inr (.inr (.inr b))
    · exact .inr (.inr (.inl a))
    · exact .inr (.inr (.inr (marked_mono hm.mono a)))
  · have hnw : now = was := LeD.eq h.len hn h.wasN h.le (by rw [← e]; exact hle)
    rcases hm.just j hj with a | a
    · exact h.mks j a hnw
    · exact a (e.trans hnw.symm)
theorem Rnd.gone {ps : List PL} {D was now : Ds} {r : Nat} {on nx : List Bool} {i : Nat} (h : Rnd ps D was now r on nx i) (hg : ∀ p ∈ ps, p.Good D.length) (hi : i < ps.length) (ho : onceP ps[i] now = none) : FixOf ps D none :=
  onWay_gone (List.getElem_mem hi) (hg _ (List.getElem_mem hi)) h.way ho
theorem getD_rep_false (n j : Nat) : (List.replicate n false).getD j false = false := by
  rw [List.getD_eq_getElem?_getD]
  by_cases h : j < n
  · rw [List.getElem?_replicate_of_lt h]; rfl
  · rw [List.getElem?_eq_none (by simp; omega)]; rfl
theorem Rnd.start {ps : List PL} {D now : Ds} (h : OnWay ps D now) (on : List Bool) (n : Nat) : Rnd ps D now now 0 on (List.replicate n false) 0 :=
  ⟨h, h.nor, rfl, fun k _ hk => absurd hk (Nat.not_lt_zero _), fun _ _ _ => .inl rfl, LeD.refl _, fun j hj => by rw [getD_rep_false] at hj; cases hj⟩
theorem Rnd.next {ps : List PL} {D was now : Ds} {r : Nat} {on nx : List Bool} (h : Rnd ps D was now r on nx ps.length) (hne : was ≠ now) (n : Nat) :
    Rnd ps D now now (r + 1) nx (List.replicate n false) 0 ∧ tot now < tot was :=
  ⟨⟨h.way, h.way.nor, rfl, fun k _ hk => absurd hk (Nat.not_lt_zero _), fun k hk _ => by
      rcases h.done k hk hk with a | a
      · exact .inr (.inl a)
      · exact .inr (.inr (.inl a)), LeD.refl _, fun j hj => by rw [getD_rep_false] at hj; cases hj⟩,
    (tot_lt h.len h.way.nor h.wasN h.le).2 (fun e => hne e.symm)⟩
theorem Rnd.stop {ps : List PL} {D was : Ds} {r : Nat} {on nx : List Bool} (h : Rnd ps D was was r on nx ps.length) : FixOf ps D (some was) := onWay_end h.way fun p hp => by
  obtain ⟨k, hk, rfl⟩ := List.mem_iff_getElem.1 hp
  rcases h.done k hk hk with a | a
  · exact a
  · exfalso
    unfold marked at a
    rw [List.any_eq_true] at a
    obtain ⟨v, _, hv⟩ := a
    exact h.mks _ hv rfl
/-- marks, set one by one -/
def markTo (now d : Ds) (vs : List Int) (nx : List Bool) : Nat → List Bool
  | 0 => nx
  | t + 1 => match vs[t]? with
    | some v => if domOf d v = domOf now v then markTo now d vs nx t else (markTo now d vs nx t).set v.toNat true
    | none => markTo now d vs nx t
theorem markTo_len (now d : Ds) (vs : List Int) (nx : List Bool) : ∀ t, (markTo now d vs nx t).length = nx.length
  | 0 => rfl
  | t + 1 => by
    unfold markTo
    cases vs[t]? with
    | none => exact markTo_len now d vs nx t
    | some v =>
      dsimp only
      split
      · exact markTo_len now d vs nx t
      · rw [List.length_set]; exact markTo_len now d vs nx t
theorem markTo_step {now d : Ds} {vs : List Int} {nx : List Bool} {t : Nat} {v : Int} (h : vs[t]? = some v) : markTo now d vs nx (t + 1) = if domOf d v = domOf now v then markTo now d vs nx t else (markTo now d vs nx t).set v.toNat true := by
  rw [markTo, h]
theorem markTo_mono (now d : Ds) (vs : List Int) (nx : List Bool) (j : Nat) : ∀ (k t : Nat), (markTo now d vs nx t).getD j false = true → (markTo now d vs nx (t + k)).getD j false = true
  | 0, _, h => h
  | k + 1, t, h => by
    have h1 := markTo_mono now d vs nx j k t h
    show (markTo now d vs nx (t + k + 1)).getD j false = true
    cases e : vs[t + k]? with
    | none => rw [markTo, e]; exact h1
    | some v =>
      rw [markTo_step e]
      split
      · exact h1
      · rw [List.getD_eq_getElem?_getD, List.getElem?_set]
        split
        · rename_i hv; subst hv
          rw [List.getD_eq_getElem?_getD] at h1
          split
          · rfl
          · rename_i hl
            rw [List.getElem?_eq_none (by omega)] at h1; cases h1
        · rw [← List.getD_eq_getElem?_getD]; exact h1
theorem markTo_just (now d : Ds) (vs : List Int) (nx : List Bool) (j : Nat) : ∀ t, (markTo now d vs nx t).getD j false = true → nx.getD j false = true ∨ d ≠ now
  | 0, h => .inl h
  | t + 1, h => by
    cases e : vs[t]? with
    | none => rw [markTo, e] at h; exact markTo_just now d vs nx j t h
    | some v =>
      rw [markTo_step e] at h
      by_cases hd : domOf d v = domOf now v
      · rw [if_pos hd] at h; exact markTo_just now d vs nx j t h
      · exact .inr (fun e => hd (by rw [e]))
theorem markOf_to {now d : Ds} {vs : List Int} {nx : List Bool} (h : ∀ v ∈ vs, v.toNat < nx.length) : MarkOf now d vs nx (markTo now d vs nx vs.length) :=
  ⟨fun j hj => by have := markTo_mono now d vs nx j vs.length 0 hj; rwa [Nat.zero_add] at this, fun v hv hne => by
    obtain ⟨t, ht, e⟩ := List.mem_iff_getElem.1 hv
    have h1 : (markTo now d vs nx (t + 1)).getD v.toNat false = true := by
      rw [markTo_step (by rw [List.getElem?_eq_getElem ht, e]), if_neg hne, List.getD_eq_getElem?_getD, List.getElem?_set_self (by rw [markTo_len]; exact h v hv)]
      rfl
    have := markTo_mono now d vs nx v.toNat (vs.length - (t + 1)) (t + 1) h1
    rwa [show t + 1 + (vs.length - (t + 1)) = vs.length by omega] at this, fun j hj => markTo_just now d vs nx j _ hj⟩
end Go.Proofs.YtajooiainglpmaaGreat
namespace Go.Proofs.YtajooiainglpmaaGreat
open Go.RowKit

def BoAt (w : World) (v : Value) (bs : List Bool) : Prop := SlAt w 1 v bs.length (bs.map Value.bool)
theorem BoAt.below {w w' : World} {v : Value} {bs : List Bool} (h : BoAt w v bs) (hb : Below w.heap.size w w') : BoAt w' v bs := SlAt.below h hb
theorem BoAt.getR {w : World} {ao : Option Addr} {n cap : Nat} {bs : List Bool} (h : BoAt w (.slice ao n cap) bs) (k : Nat) (hk : k < bs.length) :
    ∃ b off, ao = some ⟨b, off, none⟩ ∧ n = bs.length ∧ b < w.heap.size ∧ w.cell? ⟨b, off + k, none⟩ = some (.bool bs[k]) := by
  obtain ⟨b, off, c', he, _, _, hb, hx⟩ := SlAt.pos h (by omega)
  simp only [Value.slice.injEq] at he
  obtain ⟨rfl, rfl, rfl⟩ := he
  exact ⟨b, off, rfl, rfl, hb, by rw [hx k (by omega), List.getElem?_map, List.getElem?_eq_getElem hk]; rfl⟩
theorem marked_snoc {vs : List Int} {on : List Bool} {k : Nat} (hk : k < vs.length) (h : marked (vs.take k) on = false) (h2 : on.getD vs[k].toNat false = false) : marked (vs.take (k + 1)) on = false := by
  unfold marked at *
  rw [List.take_succ_eq_append_getElem hk, List.any_append, h]
  simp only [List.any_cons, List.any_nil, h2, Bool.or_self]
set_option maxRecDepth 100000 in
set_option maxHeartbeats 1600000 in
theorem named_c (vv von : Value) (vs : List Int) (on : List Bool) (w : World) (h1 : IsAt w vv vs) (h2 : BoAt w von on) (hv : ∀ v ∈ vs, 0 ≤ v ∧ v.toNat < on.length) (hvl : vs.length ≤ 4096) :
    Calls Tryz.prog 52 #[vv, von] w fun e w' => e = .returned (.bool (marked vs on)) ∧ w = w' := by
  obtain ⟨a1, c1, rfl, _⟩ := SlAt.shape h1
  obtain ⟨a2, c2, rfl, _⟩ := SlAt.shape h2
  have H1 := Lib.hid h1
  have H2 := Lib.hid h2
  have HV := Lib.hid hv
  clear h1 h2 hv
  go_enter Tryz.func52, Tryz.ntmps52
  go_wp2
  go_loop [5] (fun s => ∃ k : Nat, k ≤ vs.length ∧ s = .int .i64 k ∧ Hid (marked (vs.take k) on = false)) (fun s => vs.length - (intOf s).toNat)
  case atStart => exact ⟨0, by omega, rfl, rfl⟩
  case round =>
    obtain ⟨k, hk, rfl, HM⟩ := hrel
    by_cases hlt : k < vs.length
    · obtain ⟨b1, o1, rfl, q1, q2, x1⟩ := H1.out.getR k hlt
      have hvk := HV.out _ (List.getElem_mem hlt)
      obtain ⟨nv, hnv⟩ := Int.eq_ofNat_of_zero_le hvk.1
      have hnl : nv < on.length := by have := hvk.2; omega
      obtain ⟨b2, o2, rfl, _, q4, x2⟩ := H2.out.getR nv hnl
      have j1 : (k : Int) < vs.length := by omega
      have j2 : (nv : Int) < on.length := by omega
      have hg : on.getD vs[k].toNat false = on[nv] := by rw [hnv, Int.toNat_natCast, List.getD_eq_getElem?_getD, List.getElem?_eq_getElem hnl]; rfl
      have HT : Hid (on[nv] = true → marked vs on = true) := fun h => marked_of (List.getElem_mem hlt) (hg.trans h)
      have HF : Hid (on[nv] = false → marked (vs.take (k + 1)) on = false) := fun h => marked_snoc hlt HM.out (hg.trans h)
      rw [hnv] at x1
      clear hg hvk
      generalize on[nv] = bv at *
      clear hnv hnl
      cases bv
      · have HF2 := Lib.hid (HF.out rfl)
        clear HF HT
        go_wp2
        exact ⟨⟨k + 1, by omega, by go_num, HF2⟩, by simp [intOf]; omega⟩
      · have HT2 := Lib.hid (HT.out rfl)
        clear HF HT
        go_wp2
        go_ret
        exact ⟨ret_bool HT2.out.symm, rfl⟩
    · obtain rfl : k = vs.length := by omega
      have HF2 : Hid (marked vs on = false) := by have := HM.out; rwa [List.take_length] at this
      go_wp2
      go_ret
      exact ⟨ret_bool HF2.out.symm, rfl⟩
/-- a set is nothing that a mark's cell holds -/
theorem RgAt.setBool {w : World} {v : Value} {rs : List Rg} (h : RgAt w v rs) {a : Addr} {c : Bool} (hs : w.cell? a = some (.bool c)) (u : Value) : RgAt (w.setCell a u) v rs := by
  obtain ⟨h1, ao0, cap, rfl, h2, h3, h5, h4⟩ := h
  refine ⟨h1, ao0, cap, rfl, h2, h3, h5, fun hp => ?_⟩
  obtain ⟨b, off, rfl, hlt, hc⟩ := h4 hp
  refine ⟨b, off, rfl, by simpa [World.setCell] using hlt, fun j hj => ?_⟩
  rw [← hc j hj]
  have hj2 : j / 2 < rs.length := by omega
  have hint : ∃ z, (cellsR rs)[j]? = some (.int .i64 z) := by
    obtain ⟨a1, a2⟩ := cellsR_at rs (j / 2) hj2
    rcases (show j % 2 = 0 ∨ j % 2 = 1 by omega) with h | h
    · exact ⟨_, by rw [show j = j / 2 * 2 by omega]; exact a1⟩
    · exact ⟨_, by rw [show j = j / 2 * 2 + 1 by omega]; exact a2⟩
  obtain ⟨z, hz⟩ := hint
  exact World.cell?_setCell_other _ _ _ _ (fun he => by
    have := hc j hj
    rw [← he, hs, hz] at this
    cases this)
theorem DsAt.setBool {w : World} {v : Value} {ds : Ds} (h : DsAt w v ds) {a : Addr} {c : Bool} (hs : w.cell? a = some (.bool c)) (u : Value) : DsAt (w.setCell a u) v ds := by
  obtain ⟨us, h1, ⟨k1, ao, cap, rfl, k2, k3, k4, k5⟩, h3⟩ := h
  refine ⟨us, h1, ⟨k1, ao, cap, rfl, k2, k3, k4, fun hp => ?_⟩, fun j hj => ?_⟩
  · obtain ⟨b, off, rfl, hlt, hc⟩ := k5 hp
    refine ⟨b, off, rfl, by simpa [World.setCell] using hlt, fun j hj => ?_⟩
    rw [← hc j hj]
    refine World.cell?_setCell_other _ _ _ _ (fun he => ?_)
    obtain ⟨x, e1, e2⟩ := h3 j (by omega)
    obtain ⟨ao', cap', rfl, _⟩ := e2.shape
    have := hc j hj
    rw [← he, hs, e1] at this
    cases this
  · obtain ⟨x, e1, e2⟩ := h3 j hj
    exact ⟨x, e1, e2.setBool hs u⟩
theorem IsAt.setBool {w : World} {v : Value} {zs : List Int} (h : IsAt w v zs) {a : Addr} {c : Bool} (hs : w.cell? a = some (.bool c)) (u : Value) : IsAt (w.setCell a u) v zs := by
  obtain ⟨k1, ao, cap, rfl, k2, k3, k4, k5⟩ := h
  refine ⟨k1, ao, cap, rfl, k2, k3, k4, fun hp => ?_⟩
  obtain ⟨b, off, rfl, hlt, hc⟩ := k5 hp
  refine ⟨b, off, rfl, by simpa [World.setCell] using hlt, fun j hj => ?_⟩
  rw [← hc j hj]
  refine World.cell?_setCell_other _ _ _ _ (fun he => ?_)
  have := hc j hj
  rw [← he, hs, List.getElem?_map, List.getElem?_eq_getElem (by omega)] at this
  cases this
end Go.Proofs.YtajooiainglpmaaGreat
namespace Go.Proofs.YtajooiainglpmaaGreat
open Go.RowKit

theorem Tryz.infoBool : (Tryz.prog.info? 4).map (fun i => (i.zero, i.size, i.bytes)) = some (some (.bool false), 1, 1) := by kernel_rfl
theorem mk_brows (n : Nat) (hn : n ≤ 4096) (W : World) : (Instr.makeSlice 89 (.int .i64 n) (.int .i64 n)).run Tryz.prog W = .ok (.slice (some ⟨W.heap.size, 0, none⟩) n n) (W.alloc (.cells (madeCells #[.bool false] n) 4)) := by
  obtain ⟨i0, hi, hz0, hz1, hz2⟩ := info_parts Tryz.infoBool
  have h := run_make (P := Tryz.prog) W 89 4 i0 (.bool false) Tryz.underlying89 hi hz0 .i64 .i64 n n (by omega) (Int.le_refl _) (by rw [hz2]; omega) (by omega)
  rw [h, hz1]
  simp [Value.cells]
theorem DsAt.lit1 {w : World} {u : Value} {d : List Rg} (h : RgAt w u d) (T : TypeId) : DsAt (w.alloc (.cells #[u] T)) (.slice (some ⟨w.heap.size, 0, none⟩) 1 1) [d] := by
  have hlen : [d].length = 1 := rfl
  refine ⟨[u], rfl, ⟨rfl, some ⟨w.heap.size, 0, none⟩, 1, rfl, Nat.le_refl _, by decide, (fun h => by cases h), fun _ => ⟨w.heap.size, 0, rfl, by simp, fun j hj => ?_⟩⟩, fun j hj => ?_⟩
  · rw [hlen] at hj
    obtain rfl : j = 0 := by omega
    simp
  · rw [hlen] at hj
    obtain rfl : j = 0 := by omega
    exact ⟨u, rfl, h.below ((Below.refl _ _).alloc (Nat.le_refl _) _)⟩
theorem bo_made (w : World) (n : Nat) (hn : n ≤ 4096) : (w.alloc (.cells (madeCells #[.bool false] n) 4)).ownsRow w.heap.size 4 1 (.slice (some ⟨w.heap.size, 0, none⟩) n n) n ((List.replicate n false).map Value.bool) := by
  have h := World.ownsRow_lit (base := w.heap.size) w (madeCells #[.bool false] n) n (e := 4) (size := 1) (Nat.le_refl _) (by unfold maxLen; omega) (by simp [size_madeCells])
  rw [toList_madeCells_one] at h
  rw [List.map_replicate]
  exact h
/-- between a round's constraints: what was there ahead of the round stays; the marks lie in block NB -/
structure RS (W0 : World) (NB n : Nat) (W : World) (sn : Value) (now : Ds) (nx : List Bool) : Prop where
  nb : W0.heap.size = NB
  b : Below W0.heap.size W0 W
  now : DsAt W sn now
  own : W.ownsRow NB 4 1 (.slice (some ⟨NB, 0, none⟩) n n) n (nx.map Value.bool)
theorem RS.below {W0 : World} {NB n : Nat} {W W' : World} {sn : Value} {now : Ds} {nx : List Bool} (h : RS W0 NB n W sn now nx) (hb : Below W.heap.size W W') : RS W0 NB n W' sn now nx :=
  ⟨h.nb, h.b.trans (hb.mono h.b.size), h.now.below hb, own_below h.own hb⟩
theorem RS.len {W0 : World} {NB n : Nat} {W : World} {sn : Value} {now : Ds} {nx : List Bool} (h : RS W0 NB n W sn now nx) : nx.length = n := by have := h.own.1; simpa using this
theorem RS.bo {W0 : World} {NB n : Nat} {W : World} {sn : Value} {now : Ds} {nx : List Bool} (h : RS W0 NB n W sn now nx) : BoAt W (.slice (some ⟨NB, 0, none⟩) n n) nx := by
  have h1 := SlAt.of_own h.own
  unfold BoAt
  rw [h.len]; exact h1
theorem RS.cell {W0 : World} {NB n : Nat} {W : World} {sn : Value} {now : Ds} {nx : List Bool} (h : RS W0 NB n W sn now nx) {v : Nat} (hv : v < n) : (∃ c, W.cell? ⟨NB, v, none⟩ = some (.bool c)) ∧ W.frozen? ⟨NB, v, none⟩ = false := by
  have hl := h.len
  refine ⟨⟨nx[v]'(by omega), ?_⟩, h.own.frozenAt v⟩
  rw [h.own.cellAt v (by omega), List.getElem?_map, List.getElem?_eq_getElem (by omega)]; rfl
theorem RS.mark {W0 : World} {NB n : Nat} {W : World} {sn : Value} {now : Ds} {nx : List Bool} (h : RS W0 NB n W sn now nx) {v : Nat} (hv : v < n) : RS W0 NB n (W.setCell ⟨NB, v, none⟩ (.bool true)) sn now (nx.set v true) := by
  obtain ⟨⟨c, hc⟩, _⟩ := h.cell hv
  refine ⟨h.nb, h.b.setCell (p := ⟨NB, v, none⟩) (Nat.le_of_eq h.nb) _, h.now.setBool hc _, ?_⟩
  rw [List.map_set]
  exact (h.own.stored v (.bool true)).1
set_option maxRecDepth 100000 in
set_option maxHeartbeats 6400000 in
theorem refFix_c (ds : Ds) (ps : List PL) (vds vps : Value) (w : World) (hd : DsAt w vds ds) (hp : PsAt w vps ps) (hin : FixIn ds ps) :
    Calls Tryz.prog 23 #[vds, vps] w fun e w' => ∃ R, FixOf ps ds R ∧ RetO R w e w' := by
  obtain ⟨i0, hi0, hz0, hz1, hz2⟩ := info_parts Tryz.infoRgs
  obtain ⟨ad, cd, rfl, _⟩ := hd.shape
  obtain ⟨ap, cp, rfl, _⟩ := hp.shape
  have HD := Lib.hid hd
  have HP := Lib.hid hp
  have HIN := Lib.hid hin
  have hn100 := hin.n
  have hp300 := hin.P
  have hmk := mk_brows ds.length (by omega)
  have EN : Hid (∀ k, (hk : k < ds.length) → norm ds[k] = [] → FixOf ps ds none) := fun k hk h => onWay_none hk (by rw [List.getD_eq_getElem?_getD, List.getElem?_eq_getElem hk]; exact h)
  clear hd hp hin
  go_enter Tryz.func23, Tryz.ntmps23
  go_wp2
  go_loopw [6, 7] (fun o s wr => ∃ k : Nat, ∃ us : List Value, k ≤ ds.length ∧ s = .int .i64 k ∧ Hid (∀ j, (hj : j < ds.length) → j < k → norm ds[j] ≠ []) ∧ Hid (DsApp wr w.heap.size o ((ds.take k).map norm) us) ∧ Hid (Below w.heap.size w wr)) (fun _ s _ => ds.length - (intOf s).toNat)
  case atStart => exact ⟨0, [], by omega, rfl, fun j _ h => by omega, Lib.hid (DsApp.nil (World.ownsRow_made w #[] 0 (Nat.le_refl _) (by decide) rfl)), Lib.hid ((Below.refl _ _).alloc (Nat.le_refl _) _)⟩
  case round =>
    obtain ⟨k, us, hk, rfl, HN, HO, HB⟩ := hrel
    have hle := HB.out.size
    by_cases hlt : k < ds.length
    · obtain ⟨b, off, ao, cap, rfl, q1, q2, _, hc, hrg⟩ := (HD.out).get k hlt
      have j1 : (k : Int) < ds.length := by omega
      rw [← HB.out.cell (p := ⟨b, off + k, none⟩) q2] at hc
      have CN := Lib.hid (refNorm_n _ ds[k] wr (hrg.below HB.out) (HIN.out.dm _ (List.getElem_mem hlt)))
      have HST : Hid ((ds.take (k + 1)).map norm = (ds.take k).map norm ++ [norm ds[k]]) := by
        show _ = _
        rw [List.take_succ_eq_append_getElem hlt, List.map_append]; rfl
      have hOl : ((ds.take k).map norm).length ≤ 4096 := by rw [List.length_map, List.length_take]; omega
      have HE1 := Lib.hid (EN.out k hlt)
      have HN1 : Hid (norm ds[k] ≠ [] → ∀ j, (hj : j < ds.length) → j < k + 1 → norm ds[j] ≠ []) := fun h j hj hjk => by
        rcases Nat.lt_or_ge j k with g | g
        · exact HN.out j hj g
        · obtain rfl : j = k := by omega
          exact h
      clear hrg
      generalize (ds.take k).map norm = O at *
      generalize ds[k] = d at *
      obtain ⟨oa, oc, rfl, _⟩ := (SlAt.of_own HO.out.2.1).shape
      by_cases hnil : norm d = []
      · have HE2 := Lib.hid (HE1.out hnil)
        have CN2 : Hid (Calls Tryz.prog 29 #[.slice ao d.length cap] wr fun e W3 => ∃ a3 c3, e = .returned (.slice a3 0 c3) ∧ Below wr.heap.size wr W3) := CN.out.mono fun e W3 ⟨a3, c3, he, _, hb, _⟩ => ⟨a3, c3, by rw [he, hnil]; rfl, hb⟩
        clear CN hnil HST HE1 HN1
        go_wp2_with (go_at_call 29; (with_reducible refine CN2.out.mono ?_); rintro e W3 ⟨a3, c3, rfl, b3⟩; have B3 := Lib.hid (HB.out.trans (b3.mono hle)); clear b3)
        go_ret2
        exact ⟨none, HE2.out, B3.out, .inr ⟨rfl, rfl⟩⟩
      · have HN2 := Lib.hid (HN1.out hnil)
        have hm0 : (((norm d).length : Int) == 0) = false := by
          have := List.length_pos_iff.2 hnil
          simp; omega
        clear HN1 hnil HE1
        go_wp2_with (first
          | (go_at_call 29; (with_reducible refine CN.out.mono ?_); rintro e W3 ⟨a3, c3, rfl, r3, b3, n3⟩; have HO3 := Lib.hid (HO.out.below b3); have HAP := Lib.hid (apart_made HO.out.2.1 n3); have R3 := Lib.hid r3; have B3 := Lib.hid (HB.out.trans (b3.mono hle)); have hle3 := b3.size; clear b3 r3 n3)
          | (at_builtin; refine wpList_append1L rfl (.tmp 36) (.tmp 38) 33 rfl w.heap.size 22 i0 (.slice none 0 0) 24 Tryz.underlying33 hi0 hz0 hz1 hz2 rfl _ _ _ rfl HO3.out.2.1 _ rfl rfl (by omega) (by omega) ?_; intro g1 cap1 w1 o1 bw kw gw))
        refine ⟨⟨k + 1, us ++ [.slice a3 (norm d).length c3], by omega, by go_num, HN2, ?_, Lib.hid (B3.out.trans bw)⟩, by simp [intOf]; omega⟩
        refine Lib.hid ?_
        rw [HST.out]
        exact DsApp.push HO3.out R3.out (fun _ => HAP.out) o1 kw gw
    · obtain rfl : k = ds.length := by omega
      rw [List.take_length] at HO
      have OW : Hid (OnWay ps ds (ds.map norm)) := onWay_start (allE_of fun j hj => HN.out j hj hj)
      have HT0 : Hid (tot (ds.map norm) + 0 ≤ 401 * ds.length) := by have := tot_le (ds.map norm); rwa [List.length_map] at this
      obtain ⟨oa, oc, ho, _⟩ := (SlAt.of_own HO.out.2.1).shape
      rw [List.length_map] at ho
      subst ho
      have DW : Hid (DsAt wr (.slice oa ds.length oc) (ds.map norm)) := HO.out.own.at
      clear HN HO EN
      obtain ⟨W2, hW2⟩ : ∃ W2 : World, W2 = wr := ⟨_, rfl⟩
      subst hW2
      have B2 := Lib.hid HB.out
      clear HB hle hlt hk
      have ON0 : Hid (BoAt (W2.alloc (.cells (madeCells #[.bool false] ds.length) 4)) (.slice (some ⟨W2.heap.size, 0, none⟩) ds.length ds.length) (List.replicate ds.length false)) := by
        have h := SlAt.of_own (bo_made W2 ds.length (by omega))
        show SlAt _ 1 _ (List.replicate ds.length false).length _
        rw [List.length_replicate]; exact h
      go_wp2
      go_loopw [6, 10, 11] (fun sn so sr wr => ∃ (r : Nat) (now : Ds) (on : List Bool) (an : Option Addr) (cn : Nat) (ao : Option Addr) (co : Nat), sr = .int .i64 r ∧ sn = .slice an ds.length cn ∧ so = .slice ao ds.length co ∧ on.length = ds.length ∧ Hid (Rnd ps ds now now r on (List.replicate ds.length false) 0) ∧ Hid (DsAt wr (.slice an ds.length cn) now) ∧ Hid (BoAt wr (.slice ao ds.length co) on) ∧ Hid (Below w.heap.size w wr) ∧ Hid (tot now + r ≤ 401 * ds.length)) (fun _ _ sr _ => 402 * ds.length + 1 - (intOf sr).toNat)
      case atStart => exact ⟨0, ds.map norm, List.replicate ds.length false, _, _, _, _, rfl, rfl, rfl, by simp, Rnd.start OW.out _ _, DW.out.below ((Below.refl _ _).alloc (Nat.le_refl _) _), ON0, Lib.hid (B2.out.alloc B2.out.size _), HT0⟩
      case round =>
        clear OW HT0 DW ON0 B2
        obtain ⟨r, now, on, an, cn, ao, co, rfl, rfl, rfl, honl, HRD, HDN, HON, HB, HTT⟩ := hrel
        have hr1 : r ≤ 401 * ds.length := by have := HTT.out; omega
        have j0 : (r : Int) ≤ (ds.length : Int) * 402 := by omega
        have hle := HB.out.size
        obtain ⟨W0, hW0⟩ : ∃ W0 : World, W0 = wr := ⟨_, rfl⟩
        subst hW0
        obtain ⟨NB, hNB⟩ : ∃ NB, NB = W0.heap.size := ⟨_, rfl⟩
        have HNB := Lib.hid hNB.symm
        have HRS : Hid (RS W0 NB ds.length (W0.alloc (.cells (madeCells #[.bool false] ds.length) 4)) (.slice an ds.length cn) now (List.replicate ds.length false)) := by
          refine ⟨HNB.out, (Below.refl _ _).alloc (Nat.le_refl _) _, HDN.out.below ((Below.refl _ _).alloc (Nat.le_refl _) _), ?_⟩
          rw [hNB]; exact bo_made W0 ds.length (by omega)
        have PW : Hid (PsAt W0 (.slice ap ps.length cp) ps) := HP.out.below HB.out
        go_wp2
        rw [← hNB] at *
        clear hNB
        go_loopw [6, 14] (fun sn si wr => ∃ (i : Nat) (now2 : Ds) (nx : List Bool) (an2 : Option Addr) (cn2 : Nat), i ≤ ps.length ∧ si = .int .i64 i ∧ sn = .slice an2 ds.length cn2 ∧ Hid (Rnd ps ds now now2 r on nx i) ∧ Hid (RS W0 NB ds.length wr (.slice an2 ds.length cn2) now2 nx)) (fun _ si _ => ps.length - (intOf si).toNat)
        case atStart => exact ⟨0, now, _, an, cn, by omega, rfl, rfl, HRD, HRS⟩
        case round =>
          clear HRS HRD hmk
          obtain ⟨i, now2, nx, an2, cn2, hil, rfl, rfl, HR2, HS2⟩ := hrel
          have hnxl := HS2.out.len
          have hdl := HR2.out.way.len
          by_cases hlt : i < ps.length
          · obtain ⟨b1, o1, va, vb, vv, rfl, q1, cc, i0', i1', i2'⟩ := PW.out.get i hlt
            have j1 : (i : Int) < ps.length := by omega
            have hok := HIN.out.ok _ (List.getElem_mem hlt)
            have HCC : Hid (∀ W, Below W0.heap.size W0 W → CellsP W b1 (o1 + i * 9) ps[i] va vb vv) := fun W h => cc.below q1 h
            obtain ⟨x0, x1, x2, x3, x4, x5, x6, x7, x8⟩ := HCC.out wr HS2.out.b
            have hfine := (HIN.out.fine _ (List.getElem_mem hlt)).now hdl HR2.out.way.nor
            have hgd : ∀ p ∈ ps, p.Good ds.length := fun p hp => (HIN.out.fine p hp).good
            obtain ⟨vs, hvs⟩ : ∃ vs, vs = uniqL ps[i].all := ⟨_, rfl⟩
            have CV0 : Calls Tryz.prog 51 #[propV ps[i].kind va vb ps[i].rel ps[i].c ps[i].x ps[i].y ps[i].z vv] wr fun e w' => ∃ ao cap, e = .returned (.slice ao vs.length cap) ∧ IsAt w' (.slice ao vs.length cap) vs ∧ Below wr.heap.size wr w' := by
              rw [hvs]
              exact refVars_c ps[i].kind va vb vv ps[i].rel ps[i].c ps[i].x ps[i].y ps[i].z ps[i].coef ps[i].vars ps[i].vs wr (i0'.below HS2.out.b) (i1'.below HS2.out.b) (i2'.below HS2.out.b) (by have := hok.2.1; omega) (by have := hok.2.2; omega)
            have CO0 : ∀ W, Below W0.heap.size W0 W → DsAt W (.slice an2 ds.length cn2) now2 → Calls Tryz.prog 13 #[propV ps[i].kind va vb ps[i].rel ps[i].c ps[i].x ps[i].y ps[i].z vv, .slice an2 ds.length cn2] W (RetO (onceP ps[i] now2) W) := fun W h hd => refOnce_all ps[i] va vb vv _ now2 W (i0'.below h) (i1'.below h) (i2'.below h) hd hfine (by omega) (allN_short' HR2.out.way.nor) hok.2.1 hok.2.2
            have HVR : Hid (∀ v ∈ vs, 0 ≤ v ∧ v.toNat < ds.length) := fun v hv => (HIN.out.fine _ (List.getElem_mem hlt)).vars v (mem_uniqL.1 (by rw [← hvs]; exact hv))
            have hvl : vs.length ≤ 4096 := by rw [hvs]; exact all_len hok
            have HSKIP : Hid (r ≠ 0 → marked vs on = false → marked vs nx = false → Rnd ps ds now now2 r on nx (i + 1)) := fun h1 h2 h3 => by subst hvs; exact HR2.out.skip hlt h1 h2 h3
            have HASK : Hid (∀ d, onceP ps[i] now2 = some d → Rnd ps ds now d r on (markTo now2 d vs nx vs.length) (i + 1)) := fun d h => by subst hvs; exact HR2.out.ask hgd hlt h (markOf_to (fun v hv => by rw [hnxl]; exact (HVR.out v hv).2))
            have HGONE : Hid (onceP ps[i] now2 = none → FixOf ps ds none) := fun h => HR2.out.gone hgd hlt h
            have HLN : Hid (∀ d, onceP ps[i] now2 = some d → d.length = ds.length ∧ AllN d) := fun d h => ⟨(onceP_len h).trans hdl, onceP_normal h⟩
            obtain ⟨b3, n3, rfl, _⟩ := SlAt.shape i0'
            obtain ⟨b4, n4, rfl, _⟩ := SlAt.shape i1'
            obtain ⟨b5, n5, rfl, _⟩ := SlAt.shape i2'
            unfold propV at CV0 CO0
            have CV := Lib.hid CV0
            have CO := Lib.hid CO0
            have HNN := Lib.hid HR2.out.way.nor
            clear hvs CV0 CO0 hok hfine hgd i0' i1' i2' cc
            generalize onceP ps[i] now2 = RO at *
            generalize ps[i] = p at *
            go_upto_region 20 with (go_at_call 51; (with_reducible refine CV.out.mono ?_); rintro e W1 ⟨a5, c5, rfl, i5, b5'⟩; have I5 := Lib.hid i5; have S5 := Lib.hid (HS2.out.below b5'); clear i5 b5')
            clear x0 x1 x2 x3 x4 x5 x6 x7 x8 CV HS2
            have CN1 : Hid (Calls Tryz.prog 52 #[.slice a5 vs.length c5, .slice ao ds.length co] W1 fun e w' => e = .returned (.bool (marked vs on)) ∧ W1 = w') := named_c _ _ vs on W1 I5.out (HON.out.below S5.out.b) (by rw [honl]; exact HVR.out) hvl
            have CN2 : Hid (Calls Tryz.prog 52 #[.slice a5 vs.length c5, .slice (some ⟨NB, 0, none⟩) ds.length ds.length] W1 fun e w' => e = .returned (.bool (marked vs nx)) ∧ W1 = w') := named_c _ _ vs nx W1 I5.out S5.out.bo (by rw [hnxl]; exact HVR.out) hvl
            go_cut [79] from 55 to 123 (fun c wx => c = .bool (decide (r ≠ 0) && !marked vs on && !marked vs nx) ∧ wx = W1)
            case first =>
              generalize marked vs on = m1 at *
              generalize marked vs nx = m2 at *
              by_cases h0 : r = 0
              · subst h0
                clear CN1 CN2
                go_wp2
                go_meet
                exact ⟨by simp, rfl⟩
              · have hr0 : (0 : Int) < r := by omega
                have hdec : decide (r ≠ 0) = true := by simpa using h0
                have HDEC := Lib.hid hdec
                clear hdec h0
                cases m1
                · cases m2
                  · go_wp2_with (first
                      | (go_at_call 52; (with_reducible refine CN1.out.mono ?_); rintro e w' ⟨rfl, rfl⟩)
                      | (go_at_call 52; (with_reducible refine CN2.out.mono ?_); rintro e w' ⟨rfl, rfl⟩))
                    go_meet
                    exact ⟨by rw [HDEC.out]; rfl, rfl⟩
                  · go_wp2_with (first
                      | (go_at_call 52; (with_reducible refine CN1.out.mono ?_); rintro e w' ⟨rfl, rfl⟩)
                      | (go_at_call 52; (with_reducible refine CN2.out.mono ?_); rintro e w' ⟨rfl, rfl⟩))
                    go_meet
                    exact ⟨by rw [HDEC.out]; rfl, rfl⟩
                · clear CN2
                  go_wp2_with (go_at_call 52; (with_reducible refine CN1.out.mono ?_); rintro e w' ⟨rfl, rfl⟩)
                  go_meet
                  exact ⟨by rw [HDEC.out]; rfl, rfl⟩
            case rest =>
              obtain ⟨rfl, rfl⟩ := hcut
              clear CN1 CN2
              have B1w : Hid (Below w.heap.size w wc) := HB.out.trans (S5.out.b.mono hle)
              generalize marked vs on = m1 at *
              generalize marked vs nx = m2 at *
              cases hB : (decide (r ≠ 0) && !m1 && !m2) with
              | true =>
                have hB3 : r ≠ 0 ∧ m1 = false ∧ m2 = false := by
                  rw [Bool.and_eq_true, Bool.and_eq_true, decide_eq_true_eq, Bool.not_eq_true', Bool.not_eq_true'] at hB
                  exact ⟨hB.1.1, hB.1.2, hB.2⟩
                have HSK2 := Lib.hid (HSKIP.out hB3.1 hB3.2.1 hB3.2.2)
                clear HSKIP hB hB3 CO HASK HGONE HLN
                go_wp2
                exact ⟨⟨i + 1, now2, nx, an2, cn2, by omega, by go_num, rfl, HSK2, S5⟩, by simp [intOf]; omega⟩
              | false =>
                clear HSKIP hB
                obtain ⟨x0, x1, x2, x3, x4, x5, x6, x7, x8⟩ := HCC.out wc S5.out.b
                have CO1 := Lib.hid (CO.out wc S5.out.b S5.out.now)
                clear CO
                cases RO with
                | none =>
                  have HF := Lib.hid (HGONE.out rfl)
                  have CO2 : Hid (Calls Tryz.prog 13 #[.agg #[.int .i64 p.kind, .slice b3 p.coef.length n3, .slice b4 p.vars.length n4, .int .i64 p.rel, .int .i64 p.c, .int .i64 p.x, .int .i64 p.y, .int .i64 p.z, .slice b5 p.vs.length n5], .slice an2 ds.length cn2] wc fun e W' => e = .returned (.tuple #[.slice none 0 0, .bool false]) ∧ Below wc.heap.size wc W') := CO1.out.mono fun e W' ⟨hb, hh⟩ => by
                    rcases hh with ⟨_, _, _, h1, _⟩ | ⟨_, h1⟩
                    · cases h1
                    · exact ⟨h1, hb⟩
                  clear CO1 HGONE HASK HLN
                  go_wp2_with (go_at_call 13; (with_reducible refine CO2.out.mono ?_); rintro e W6 ⟨rfl, b6⟩; have B6 := Lib.hid (B1w.out.trans (b6.mono B1w.out.size)); clear b6)
                  go_ret2
                  exact ⟨none, HF.out, B6.out, .inr ⟨rfl, rfl⟩⟩
                | some d =>
                  obtain ⟨hd1, hd2⟩ := HLN.out d rfl
                  have HD2 := Lib.hid hd2
                  have HDL := Lib.hid hd1
                  have HASK2 := Lib.hid (HASK.out d rfl)
                  have CO2 : Hid (Calls Tryz.prog 13 #[.agg #[.int .i64 p.kind, .slice b3 p.coef.length n3, .slice b4 p.vars.length n4, .int .i64 p.rel, .int .i64 p.c, .int .i64 p.x, .int .i64 p.y, .int .i64 p.z, .slice b5 p.vs.length n5], .slice an2 ds.length cn2] wc fun e W' => ∃ ao cap, e = .returned (.tuple #[.slice ao ds.length cap, .bool true]) ∧ DsAt W' (.slice ao ds.length cap) d ∧ Below wc.heap.size wc W') := CO1.out.mono fun e W' ⟨hb, hh⟩ => by
                    rcases hh with ⟨d', ao, cap, h1, h2, h3⟩ | ⟨h1, _⟩
                    · have h1 := Option.some.inj h1
                      subst h1
                      rw [hd1] at h2 h3
                      exact ⟨ao, cap, h2, h3, hb⟩
                    · cases h1
                  clear CO1 HGONE HASK HLN hd1 hd2
                  go_wp2_with (go_at_call 13; (with_reducible refine CO2.out.mono ?_); rintro e W6 ⟨a6, c6, rfl, d6, b6⟩; have D6 := Lib.hid d6; have S6 := Lib.hid (S5.out.below b6); have I6 := Lib.hid (I5.out.below b6); clear d6 b6)
                  clear x0 x1 x2 x3 x4 x5 x6 x7 x8 CO2 S5 I5 HCC
                  go_loopw [18] (fun s wr => ∃ t : Nat, t ≤ vs.length ∧ s = .int .i64 t ∧ Hid (RS W0 NB ds.length wr (.slice an2 ds.length cn2) now2 (markTo now2 d vs nx t)) ∧ Hid (DsAt wr (.slice a6 ds.length c6) d) ∧ Hid (IsAt wr (.slice a5 vs.length c5) vs)) (fun s _ => vs.length - (intOf s).toNat)
                  case atStart => exact ⟨0, by omega, rfl, S6, D6, I6⟩
                  case round =>
                    clear S6 D6 I6
                    obtain ⟨t, htl, rfl, S7, D7, I7⟩ := hrel
                    by_cases hlt2 : t < vs.length
                    · obtain ⟨b6, o6, rfl, q5, q6, x6⟩ := I7.out.getR t hlt2
                      have hvt := HVR.out _ (List.getElem_mem hlt2)
                      obtain ⟨nv, hnv⟩ := Int.eq_ofNat_of_zero_le hvt.1
                      have hnl : nv < ds.length := by have := hvt.2; omega
                      have HVT : Hid (vs[t]? = some (nv : Int)) := by show _ = _; rw [List.getElem?_eq_getElem hlt2, hnv]
                      rw [hnv] at x6
                      have hn1 : nv < now2.length := by omega
                      have hd1 : nv < d.length := by have := HDL.out; omega
                      obtain ⟨bn, on', an', cn', hen, _, qn, hq1, cellN, rgN⟩ := S7.out.now.get nv hn1
                      obtain ⟨bd, od, ad', cd', hed, _, qd, hq2, cellD, rgD⟩ := D7.out.get nv hd1
                      subst hen
                      subst hed
                      clear hq1 hq2
                      have hdlx := allN_short' HD2.out _ (List.getElem_mem hd1)
                      have HST : Hid (markTo now2 d vs nx (t + 1) = if d[nv] = now2[nv] then markTo now2 d vs nx t else (markTo now2 d vs nx t).set nv true) := by
                        show _ = _
                        rw [markTo_step HVT.out, domOf_nat hd1, domOf_nat hn1, Int.toNat_natCast]
                      have CS0 : Calls Tryz.prog 24 #[.slice (some ⟨wr.heap.size, 0, none⟩) 1 1, .slice (some ⟨wr.heap.size + 1, 0, none⟩) 1 1] ((wr.alloc (.cells #[.slice ad' d[nv].length cd'] 22)).alloc (.cells #[.slice an' now2[nv].length cn'] 22)) fun e w' => e = .returned (.bool (decide ([d[nv]] = [now2[nv]]))) ∧ Below wr.heap.size wr w' := by
                        have hz1 : Below wr.heap.size wr (wr.alloc (.cells #[.slice ad' d[nv].length cd'] 22)) := (Below.refl _ _).alloc (Nat.le_refl _) _
                        have h1 := (DsAt.lit1 rgD 22).alloc (.cells #[.slice an' now2[nv].length cn'] 22)
                        have h2 := DsAt.lit1 (rgN.below hz1) 22
                        rw [show (wr.alloc (.cells #[.slice ad' d[nv].length cd'] 22)).heap.size = wr.heap.size + 1 by simp] at h2
                        have hz2 := hz1.alloc (by simp) (.cells #[.slice an' now2[nv].length cn'] 22)
                        exact (same17_c _ _ [d[nv]] [now2[nv]] _ h1 h2 (by simp) (fun e he => by rw [List.mem_singleton.1 he]; exact hdlx)).mono fun e w' ⟨h3, h4⟩ => ⟨h3, hz2.trans (h4.mono hz2.size)⟩
                      have hone : decide ([d[nv]] = [now2[nv]]) = decide (d[nv] = now2[nv]) := by simp
                      rw [hone] at CS0
                      have j3 : (t : Int) < vs.length := by omega
                      have j4 : (nv : Int) < ds.length := by omega
                      have ma : ∀ o, (wr.alloc o).cell? ⟨b6, o6 + t, none⟩ = some (.int .i64 nv) := fun o => Lib.cell?_alloc_some o x6
                      have mb : ∀ o, (wr.alloc o).cell? ⟨bn, on' + nv, none⟩ = some (.slice an' now2[nv].length cn') := fun o => Lib.cell?_alloc_some o cellN
                      have HXC : Hid (∀ W, Below wr.heap.size wr W → W.cell? ⟨b6, o6 + t, none⟩ = some (.int .i64 nv)) := fun W h => (h.cell (p := ⟨b6, o6 + t, none⟩) q6).trans x6
                      clear hvt hnv rgN rgD hdlx hone
                      generalize d[nv] = dx at *
                      generalize now2[nv] = nxx at *
                      have HDL2 := Lib.hid hdl
                      have HNXL := Lib.hid hnxl
                      clear hn1 hd1 hdl hnxl
                      by_cases hxe : dx = nxx
                      · have hdec : decide (dx = nxx) = true := decide_eq_true hxe
                        rw [hdec] at CS0
                        have CS := Lib.hid CS0
                        have HS2 : Hid (markTo now2 d vs nx (t + 1) = markTo now2 d vs nx t) := by show _ = _; rw [HST.out, if_pos hxe]
                        clear CS0 HST hxe hdec
                        go_wp2_with (go_at_call 24; (with_reducible refine CS.out.mono ?_); rintro e W8 ⟨rfl, b8⟩; have B8 := Lib.hid b8; clear b8)
                        exact ⟨⟨t + 1, by omega, by go_num, by rw [HS2.out]; exact Lib.hid (S7.out.below B8.out), Lib.hid (D7.out.below B8.out), Lib.hid (I7.out.below B8.out)⟩, by simp [intOf]; omega⟩
                      · have hdec : decide (dx = nxx) = false := decide_eq_false hxe
                        rw [hdec] at CS0
                        have CS := Lib.hid CS0
                        have HS2 : Hid (markTo now2 d vs nx (t + 1) = (markTo now2 d vs nx t).set nv true) := by show _ = _; rw [HST.out, if_neg hxe]
                        clear CS0 HST hxe hdec
                        go_wp2_with (go_at_call 24; (with_reducible refine CS.out.mono ?_); rintro e W8 ⟨rfl, b8⟩; have B8 := Lib.hid b8; have S8 := Lib.hid (S7.out.below b8); obtain ⟨⟨z8, zc8⟩, zf8⟩ := S8.out.cell hnl; have y8 := HXC.out W8 b8; clear b8)
                        exact ⟨⟨t + 1, by omega, by go_num, by rw [HS2.out]; exact Lib.hid (S8.out.mark hnl), Lib.hid ((D7.out.below B8.out).setBool zc8 _), Lib.hid ((I7.out.below B8.out).setBool zc8 _)⟩, by simp [intOf]; omega⟩
                    · obtain rfl : t = vs.length := by omega
                      go_wp2
                      exact ⟨⟨i + 1, d, markTo now2 d vs nx vs.length, a6, c6, by omega, by go_num, rfl, HASK2, Lib.hid ⟨S7.out.nb, S7.out.b, D7.out, S7.out.own⟩⟩, by simp [intOf]; omega⟩
          · obtain rfl : i = ps.length := by omega
            have CS0 := same17_c (.slice an ds.length cn) (.slice an2 ds.length cn2) now now2 wr (HDN.out.below HS2.out.b) HS2.out.now (by have := HR2.out.len; omega) (allN_short' HR2.out.wasN)
            have B1w : Hid (Below w.heap.size w wr) := HB.out.trans (HS2.out.b.mono hle)
            have HDL2 := Lib.hid hdl
            clear hdl
            by_cases hxe : now = now2
            · have hdec : decide (now = now2) = true := decide_eq_true hxe
              rw [hdec] at CS0
              have CS := Lib.hid CS0
              have HF : Hid (FixOf ps ds (some now2)) := by
                have h := HR2.out
                rw [hxe] at h
                exact h.stop
              clear CS0 hxe hdec HON HDN HTT
              go_wp2_with (go_at_call 24; (with_reducible refine CS.out.mono ?_); rintro e W8 ⟨rfl, b8⟩; have B8 := Lib.hid (B1w.out.trans (b8.mono B1w.out.size)); have D8 := Lib.hid (HS2.out.now.below b8); clear b8)
              go_ret2
              exact ⟨some now2, HF.out, B8.out, .inl ⟨now2, an2, cn2, rfl, by rw [HDL2.out]; rfl, by rw [HDL2.out]; exact D8.out⟩⟩
            · have hdec : decide (now = now2) = false := decide_eq_false hxe
              rw [hdec] at CS0
              have CS := Lib.hid CS0
              have HNX := Lib.hid (HR2.out.next hxe ds.length)
              have HNXL := Lib.hid hnxl
              clear CS0 hxe hdec hnxl
              go_wp2_with (go_at_call 24; (with_reducible refine CS.out.mono ?_); rintro e W8 ⟨rfl, b8⟩; have B8 := Lib.hid (B1w.out.trans (b8.mono B1w.out.size)); have S8 := Lib.hid (HS2.out.below b8); clear b8)
              exact ⟨⟨r + 1, now2, nx, an2, cn2, some ⟨NB, 0, none⟩, ds.length, by go_num, rfl, rfl, HNXL.out, Lib.hid HNX.out.1, Lib.hid S8.out.now, Lib.hid S8.out.bo, B8, Lib.hid (by have := HNX.out.2; have := HTT.out; omega)⟩, by simp [intOf]; omega⟩
end Go.Proofs.YtajooiainglpmaaGreat
