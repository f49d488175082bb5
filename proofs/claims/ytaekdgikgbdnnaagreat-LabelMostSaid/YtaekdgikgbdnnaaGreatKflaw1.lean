/-
  What the laws of layer 17 begin with: the bound, the check.
  fix.Holds and coneyref17.Holds, walked.
-/
import Derived.Test.YtaekdgikgbdnnaaGreatKfix1
import Derived.Test.YtaekdgikgbdnnaaGreatKdom3
import Derived.Test.YtaekdgikgbdnnaaGreatKonce9
namespace Go.Proofs.YtaekdgikgbdnnaaGreat
open Go.RowKit

def bigD (d : List Rg) : Bool := decide (4 < d.length) || decide (60 < sizeL (norm d))
def bigP (p : PL) : Bool := decide (5 < p.vars.length) || decide (5 < p.coef.length) || decide (6 < p.vs.length)
def many17 (ds : Ds) (ps : List PL) : Bool := decide (5 < ds.length) || decide (6 < ps.length) || ds.any bigD || ps.any bigP
theorem many17_ok {ds : Ds} {ps : List PL} (h : many17 ds ps = false) : ds.length ≤ 5 ∧ ps.length ≤ 6 ∧ (∀ d ∈ ds, d.length ≤ 4) ∧ ∀ p ∈ ps, p.coef.length ≤ 5 ∧ p.vars.length ≤ 5 ∧ p.vs.length ≤ 6 := by
  simp only [many17, bigD, bigP, Bool.or_eq_false_iff, decide_eq_false_iff_not, List.any_eq_false, decide_eq_true_eq, Bool.or_eq_true, not_or] at h
  obtain ⟨⟨⟨h1, h2⟩, h3⟩, h4⟩ := h
  exact ⟨by omega, by omega, fun d hd => by have := (h3 d hd).1; omega, fun p hp => by have := h4 p hp; omega⟩
theorem any_snoc {α : Type} {l : List α} {f : α → Bool} {k : Nat} (hk : k < l.length) (h : (l.take k).any f = false) (h2 : f l[k] = false) : (l.take (k + 1)).any f = false := by
  rw [List.take_succ_eq_append_getElem hk, List.any_append, h]; simp [h2]
theorem any_hit {α : Type} {l : List α} {f : α → Bool} {k : Nat} (hk : k < l.length) (h : f l[k] = true) : l.any f = true := by
  rw [List.any_eq_true]; exact ⟨l[k], List.getElem_mem hk, h⟩

def right17 (ds : Ds) (ps : List PL) : Bool := !many17 ds ps && decide (fixChk ds.length ps = 0)
theorem right17_in {ds : Ds} {ps : List PL} (h : right17 ds ps = true) : FixIn ds ps := by
  unfold right17 at h
  rw [Bool.and_eq_true, Bool.not_eq_true', decide_eq_true_eq] at h
  obtain ⟨h1, h2⟩ := h
  obtain ⟨m1, m2, m3, m4⟩ := many17_ok h1
  have hdm : ∀ d ∈ ds, d.length ≤ 4096 := fun d hd => by have := m3 d hd; omega
  have hc : ∀ p ∈ ps, p.chk ds.length = 0 := fun p hp => by
    obtain ⟨j, hj, rfl⟩ := List.mem_iff_getElem.1 hp
    apply Classical.byContradiction
    intro hne
    -- the first one that is told
    have hex : ∃ k, ∃ hk : k < ps.length, ps[k].chk ds.length ≠ 0 ∧ ∀ i, (hi : i < ps.length) → i < k → ps[i].chk ds.length = 0 := by
      have : ∀ m, m ≤ ps.length → (∀ i, (hi : i < ps.length) → i < m → ps[i].chk ds.length = 0) ∨ ∃ k, ∃ hk : k < ps.length, ps[k].chk ds.length ≠ 0 ∧ ∀ i, (hi : i < ps.length) → i < k → ps[i].chk ds.length = 0 := by
        intro m
        induction m with
        | zero => exact fun _ => .inl fun i _ hi => absurd hi (Nat.not_lt_zero _)
        | succ m ih =>
          intro hm
          rcases ih (by omega) with h | h
          · by_cases e : ps[m].chk ds.length = 0
            · exact .inl fun i hi him => by
                rcases Nat.lt_or_ge i m with g | g
                · exact h i hi g
                · obtain rfl : i = m := by omega
                  exact e
            · exact .inr ⟨m, by omega, e, h⟩
          · exact .inr h
      rcases this ps.length (Nat.le_refl _) with h | h
      · exact absurd (h j hj hj) hne
      · exact h
    obtain ⟨k, hk, h3, h4⟩ := hex
    have := fix_hit (m := ds.length) (ps := ps) (by omega) (by omega) hk h4 h3
    rw [h2] at this
    exact h3 this.symm
  exact ⟨fun p hp => chk_fine p ds (hc p hp) hdm, fun p hp => by have := m4 p hp; exact ⟨by omega, by omega, by omega⟩, by omega, hdm, by omega⟩
end Go.Proofs.YtaekdgikgbdnnaaGreat
namespace Go.Proofs.YtaekdgikgbdnnaaGreat
open Go.RowKit

structure HoldIn (ps : List PL) (ds : Ds) (xs : List Int) : Prop where
  fine : ∀ p ∈ ps, p.Fine ds
  xl : xs.length ≤ 4096
  xb : ∀ v ∈ xs, -200 ≤ v ∧ v ≤ 200
def allHold (ps : List PL) (xs : List Int) : Bool := ps.all fun p => holdsP p xs
theorem allHold_iff {ps : List PL} {xs : List Int} : allHold ps xs = true ↔ ∀ p ∈ ps, holdsP p xs = true := by unfold allHold; rw [List.all_eq_true]
theorem all_snoc {α : Type} {l : List α} {f : α → Bool} {k : Nat} (hk : k < l.length) (h : (l.take k).all f = true) (h2 : f l[k] = true) : (l.take (k + 1)).all f = true := by
  rw [List.take_succ_eq_append_getElem hk, List.all_append, h]; simp [h2]
theorem all_miss {α : Type} {l : List α} {f : α → Bool} {k : Nat} (hk : k < l.length) (h : f l[k] = false) : l.all f = false := by
  rw [Bool.eq_false_iff]
  intro h1
  rw [List.all_eq_true] at h1
  have := h1 _ (List.getElem_mem hk)
  rw [h] at this; cases this
set_option maxRecDepth 100000 in
set_option maxHeartbeats 800000 in
theorem refFixHolds_c (vx vps : Value) (ps : List PL) (ds : Ds) (xs : List Int) (w : World) (hx : IsAt w vx xs) (hp : PsAt w vps ps) (hi : HoldIn ps ds xs) (hpl : ps.length ≤ 4096) :
    Calls Tryz.prog 23 #[vps, vx] w fun e w' => e = .returned (.bool (allHold ps xs)) ∧ Below w.heap.size w w' := by
  obtain ⟨a1, c1, rfl, _⟩ := hp.shape
  obtain ⟨a3, c3, rfl, _⟩ := SlAt.shape hx
  have HP := Lib.hid hp
  have HI := Lib.hid hi
  have HX := Lib.hid hx
  clear hp hi hx
  go_enter Tryz.func23, Tryz.ntmps23
  go_wp2
  go_loopw [5] (fun s wr => ∃ k : Nat, k ≤ ps.length ∧ s = .int .i64 k ∧ Hid ((ps.take k).all (fun p => holdsP p xs) = true) ∧ Hid (Below w.heap.size w wr)) (fun s _ => ps.length - (intOf s).toNat)
  case atStart => exact ⟨0, by omega, rfl, by show _ = _; rfl, Lib.hid (Below.refl _ _)⟩
  case round =>
    obtain ⟨k, hk, rfl, HE, HB⟩ := hrel
    by_cases hlt : k < ps.length
    · obtain ⟨b1, o1, va, vb, vv, rfl, q1, cc, i0, i1, i2⟩ := HP.out.get k hlt
      have j1 : (k : Int) < ps.length := by omega
      obtain ⟨x0, x1, x2, x3, x4, x5, x6, x7, x8⟩ := cc.below q1 HB.out
      have hq := Nat.lt_of_lt_of_le q1 HB.out.size
      have CC0 : Calls Tryz.prog 37 #[propV ps[k].kind va vb ps[k].rel ps[k].c ps[k].x ps[k].y ps[k].z vv, .slice a3 xs.length c3] wr fun e w' => e = .returned (.bool (holdsP ps[k] xs)) ∧ Below wr.heap.size wr w' :=
        refHolds_c ps[k].kind va vb vv _ ps[k].rel ps[k].c ps[k].x ps[k].y ps[k].z ps[k].coef ps[k].vars ps[k].vs xs ds wr (i0.below HB.out) (i1.below HB.out) (i2.below HB.out) (HX.out.below HB.out) (HI.out.fine _ (List.getElem_mem hlt)) HI.out.xl HI.out.xb
      unfold propV at CC0
      have CC := Lib.hid CC0
      clear CC0
      obtain ⟨b3, n3, rfl, _⟩ := SlAt.shape i0
      obtain ⟨b4, n4, rfl, _⟩ := SlAt.shape i1
      obtain ⟨b5, n5, rfl, _⟩ := SlAt.shape i2
      have HS : Hid (holdsP ps[k] xs = true → (ps.take (k + 1)).all (fun p => holdsP p xs) = true) := fun h => all_snoc hlt HE.out h
      have HT : Hid (holdsP ps[k] xs = false → allHold ps xs = false) := fun h => all_miss hlt h
      clear i0 i1 i2 cc
      generalize holdsP ps[k] xs = hr at *
      generalize ps[k] = p at *
      cases hr with
      | false =>
        have HT2 := Lib.hid (HT.out rfl)
        go_wp2_with (go_at_call 37; (with_reducible refine CC.out.mono ?_); rintro e W1 ⟨rfl, bb⟩; have B1 := Lib.hid (HB.out.trans (bb.mono HB.out.size)); clear bb)
        go_ret
        exact ⟨ret_bool HT2.out.symm, B1.out⟩
      | true =>
        have HS2 := Lib.hid (HS.out rfl)
        go_wp2_with (go_at_call 37; (with_reducible refine CC.out.mono ?_); rintro e W1 ⟨rfl, bb⟩; have B1 := Lib.hid (HB.out.trans (bb.mono HB.out.size)); clear bb)
        exact ⟨⟨k + 1, by omega, by go_num, HS2, B1⟩, by simp [intOf]; omega⟩
    · obtain rfl : k = ps.length := by omega
      rw [List.take_length] at HE
      have HE2 : Hid (allHold ps xs = true) := HE.out
      go_wp2
      go_ret
      exact ⟨ret_bool HE2.out.symm, HB.out⟩
end Go.Proofs.YtaekdgikgbdnnaaGreat
