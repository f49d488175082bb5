/-
  LISTS OF CONSTRAINTS IN MEMORY; fix.Check, coneyref17.Check and the law FixChecks, walked.
-/
import Derived.Test.YtkhiogcdamjocaaRel7
import Derived.Test.YtkhiogcdamjocaaPL
import Derived.Test.YtkhiogcdamjocaaDs
namespace Go.Proofs.Ytkhiogcdamjocaa
open Go.RowKit

/-- a constraint's nine cells, from a place on -/
def CellsP (w : World) (b o : Nat) (p : PL) (va vb vv : Value) : Prop :=
  w.cell? ⟨b, o, none⟩ = some (.int .i64 p.kind) ∧ w.cell? ⟨b, o + 1, none⟩ = some va ∧ w.cell? ⟨b, o + 2, none⟩ = some vb ∧ w.cell? ⟨b, o + 3, none⟩ = some (.int .i64 p.rel) ∧ w.cell? ⟨b, o + 4, none⟩ = some (.int .i64 p.c) ∧
  w.cell? ⟨b, o + 5, none⟩ = some (.int .i64 p.x) ∧ w.cell? ⟨b, o + 6, none⟩ = some (.int .i64 p.y) ∧ w.cell? ⟨b, o + 7, none⟩ = some (.int .i64 p.z) ∧ w.cell? ⟨b, o + 8, none⟩ = some vv
theorem CellsP.below {w w' : World} {b o : Nat} {p : PL} {va vb vv : Value} (h : CellsP w b o p va vb vv) (hl : b < w.heap.size) (hb : Below w.heap.size w w') : CellsP w' b o p va vb vv := by
  obtain ⟨h0, h1, h2, h3, h4, h5, h6, h7, h8⟩ := h
  exact ⟨(hb.cell (p := ⟨b, o, none⟩) hl).trans h0, (hb.cell (p := ⟨b, o + 1, none⟩) hl).trans h1, (hb.cell (p := ⟨b, o + 2, none⟩) hl).trans h2, (hb.cell (p := ⟨b, o + 3, none⟩) hl).trans h3, (hb.cell (p := ⟨b, o + 4, none⟩) hl).trans h4,
    (hb.cell (p := ⟨b, o + 5, none⟩) hl).trans h5, (hb.cell (p := ⟨b, o + 6, none⟩) hl).trans h6, (hb.cell (p := ⟨b, o + 7, none⟩) hl).trans h7, (hb.cell (p := ⟨b, o + 8, none⟩) hl).trans h8⟩
def PsAt (w : World) (v : Value) (ps : List PL) : Prop :=
  ∃ ao cap, v = .slice ao ps.length cap ∧ ps.length ≤ cap ∧ cap ≤ maxLen ∧ (0 < ps.length → ∃ b off, ao = some ⟨b, off, none⟩ ∧ b < w.heap.size ∧
    ∀ j, (hj : j < ps.length) → ∃ va vb vv, CellsP w b (off + j * 9) ps[j] va vb vv ∧ IsAt w va ps[j].coef ∧ IsAt w vb ps[j].vars ∧ IsAt w vv ps[j].vs)
theorem PsAt.below {w w' : World} {v : Value} {ps : List PL} (h : PsAt w v ps) (hb : Below w.heap.size w w') : PsAt w' v ps := by
  obtain ⟨ao, cap, rfl, h1, h2, h3⟩ := h
  refine ⟨ao, cap, rfl, h1, h2, fun hp => ?_⟩
  obtain ⟨b, off, rfl, hl, hc⟩ := h3 hp
  refine ⟨b, off, rfl, Nat.lt_of_lt_of_le hl hb.size, fun j hj => ?_⟩
  obtain ⟨va, vb, vv, c, i0, i1, i2⟩ := hc j hj
  exact ⟨va, vb, vv, c.below hl hb, i0.below hb, i1.below hb, i2.below hb⟩
theorem PsAt.shape {w : World} {v : Value} {ps : List PL} (h : PsAt w v ps) : ∃ ao cap, v = .slice ao ps.length cap ∧ ps.length ≤ cap ∧ cap ≤ maxLen := by
  obtain ⟨ao, cap, rfl, h1, h2, _⟩ := h; exact ⟨ao, cap, rfl, h1, h2⟩
theorem PsAt.get {w : World} {ao : Option Addr} {n cap : Nat} {ps : List PL} (h : PsAt w (.slice ao n cap) ps) (j : Nat) (hj : j < ps.length) :
    ∃ b off va vb vv, ao = some ⟨b, off, none⟩ ∧ b < w.heap.size ∧ CellsP w b (off + j * 9) ps[j] va vb vv ∧ IsAt w va ps[j].coef ∧ IsAt w vb ps[j].vars ∧ IsAt w vv ps[j].vs := by
  obtain ⟨ao', cap', he, h1, h2, h3⟩ := h
  simp only [Value.slice.injEq] at he
  obtain ⟨rfl, rfl, rfl⟩ := he
  obtain ⟨b, off, rfl, hl, hc⟩ := h3 (by omega)
  obtain ⟨va, vb, vv, c, i0, i1, i2⟩ := hc j hj
  exact ⟨b, off, va, vb, vv, rfl, hl, c, i0, i1, i2⟩

def PL.chk (p : PL) (n : Int) : Int := relChk p.kind p.rel p.c p.x p.y p.z p.coef p.vars p.vs n
def PL.ok (p : PL) : Prop := p.coef.length ≤ 4095 ∧ p.vars.length ≤ 4095 ∧ p.vs.length ≤ 4095
/-- what both Checks of a list tell -/
def fixChk (m : Nat) (ps : List PL) : Int := if 64 < m ∨ 256 < ps.length then 34 else ((ps.map (fun p => p.chk m)).find? (· != 0)).getD 0
theorem find_hit {l : List Int} {k : Nat} (hk : k < l.length) (h : ∀ j, (hj : j < l.length) → j < k → l[j] = 0) (hp : l[k] ≠ 0) : (l.find? (· != 0)).getD 0 = l[k] := by
  induction l generalizing k with
  | nil => simp at hk
  | cons a t ih =>
    cases k with
    | zero =>
      have hb : (a != 0) = true := by simpa using hp
      simp [List.find?, hb]
    | succ k =>
      have h0 := h 0 (by simp) (by omega)
      simp at h0
      subst h0
      simp only [List.getElem_cons_succ] at hp ⊢
      rw [← ih (by simpa using hk) (fun j hj hjk => by have := h (j + 1) (by simpa using hj) (by omega); simpa using this) hp]
      simp [List.find?]
theorem find_none {l : List Int} (h : ∀ j, (hj : j < l.length) → l[j] = 0) : (l.find? (· != 0)).getD 0 = 0 := by
  have : l.find? (· != 0) = none := by
    rw [List.find?_eq_none]
    intro x hx
    obtain ⟨j, hj, rfl⟩ := List.getElem_of_mem hx
    simp [h j hj]
  rw [this]; rfl
theorem fix_hit {m : Nat} {ps : List PL} {k : Nat} (hm : ¬ 64 < m) (hl : ¬ 256 < ps.length) (hk : k < ps.length) (h : ∀ j, (hj : j < ps.length) → j < k → ps[j].chk m = 0) (hp : ps[k].chk m ≠ 0) : fixChk m ps = ps[k].chk m := by
  unfold fixChk
  rw [if_neg (by omega), find_hit (k := k) (by simpa using hk) (fun j hj hjk => by simpa using h j (by simpa using hj) hjk) (by simpa using hp)]
  simp
theorem fix_none {m : Nat} {ps : List PL} (hm : ¬ 64 < m) (hl : ¬ 256 < ps.length) (h : ∀ j, (hj : j < ps.length) → ps[j].chk m = 0) : fixChk m ps = 0 := by
  unfold fixChk
  rw [if_neg (by omega), find_none (fun j hj => by simpa using h j (by simpa using hj))]

set_option maxRecDepth 100000 in
set_option maxHeartbeats 1600000 in
theorem refFixCheck_c (vd vp : Value) (ds : Ds) (ps : List PL) (w : World) (hd : DsAt w vd ds) (hp : PsAt w vp ps) (hok : ∀ j, (hj : j < ps.length) → ps[j].ok) :
    Calls Try.prog 13 #[vd, vp] w fun e w' => e = .returned (.int .i64 (fixChk ds.length ps)) ∧ Below w.heap.size w w' := by
  obtain ⟨a0, c0, rfl, _⟩ := DsAt.shape hd
  obtain ⟨a1, c1, rfl, _⟩ := PsAt.shape hp
  have HP := Lib.hid hp
  have HO := Lib.hid hok
  generalize ds.length = m at *
  clear hd hp hok
  by_cases h1 : 64 < m
  · have hS : Hid (fixChk m ps = 34) := by show _ = _; unfold fixChk; rw [if_pos (by omega)]
    go_enter Try.func13, Try.ntmps13
    go_wp2
    go_ret
    exact ⟨ret_int hS.out.symm, Below.refl _ _⟩
  by_cases h2 : 256 < ps.length
  · have hS : Hid (fixChk m ps = 34) := by show _ = _; unfold fixChk; rw [if_pos (by omega)]
    go_enter Try.func13, Try.ntmps13
    go_wp2
    go_ret
    exact ⟨ret_int hS.out.symm, Below.refl _ _⟩
  have HH : Hid (∀ k, (hk : k < ps.length) → (∀ j, (hj : j < ps.length) → j < k → ps[j].chk m = 0) → ps[k].chk m ≠ 0 → fixChk m ps = ps[k].chk m) := fun k hk h hp => fix_hit h1 h2 hk h hp
  have HE : Hid ((∀ j, (hj : j < ps.length) → ps[j].chk m = 0) → fixChk m ps = 0) := fun h => fix_none h1 h2 h
  generalize fixChk m ps = R at *
  go_enter Try.func13, Try.ntmps13
  go_wp2
  go_loopw [5] (fun s wr => ∃ i : Nat, i ≤ ps.length ∧ s = .int .i64 i ∧ Hid (∀ j, (hj : j < ps.length) → j < i → ps[j].chk m = 0) ∧ Hid (Below w.heap.size w wr)) (fun s _ => ps.length - (intOf s).toNat)
  case atStart => exact ⟨0, by omega, rfl, fun j _ h => by omega, Lib.hid (Below.refl _ _)⟩
  case round =>
    obtain ⟨i, hil, rfl, HN, HB⟩ := hrel
    by_cases hlt : i < ps.length
    · obtain ⟨b1, o1, va, vb, vv, rfl, q1, cc, i0, i1, i2⟩ := HP.out.get i hlt
      obtain ⟨k1, k2, k3⟩ := HO.out i hlt
      have j1 : (i : Int) < ps.length := by omega
      obtain ⟨x0, x1, x2, x3, x4, x5, x6, x7, x8⟩ := cc.below q1 HB.out
      have hq := Nat.lt_of_lt_of_le q1 HB.out.size
      have HX := Lib.hid (HH.out i hlt HN.out)
      have HQ : Hid (ps[i].chk m = 0 → ∀ j, (hj : j < ps.length) → j < i + 1 → ps[j].chk m = 0) := fun h j hj hjk => by
        rcases Nat.lt_or_ge j i with g | g
        · exact HN.out j hj g
        · obtain rfl : j = i := by omega
          exact h
      have CC := Lib.hid (refRelCheck_c ps[i].kind va vb vv ps[i].rel ps[i].c ps[i].x ps[i].y ps[i].z m ps[i].coef ps[i].vars ps[i].vs wr (i0.below HB.out) (i1.below HB.out) (i2.below HB.out) (by omega) k2 k3)
      change Hid (Calls _ _ _ _ fun e w' => e = .returned (.int .i64 (ps[i].chk m)) ∧ Below wr.heap.size wr w') at CC
      unfold propV at CC
      obtain ⟨b3, n3, rfl, _⟩ := SlAt.shape i0
      obtain ⟨b4, n4, rfl, _⟩ := SlAt.shape i1
      obtain ⟨b5, n5, rfl, _⟩ := SlAt.shape i2
      generalize ps[i].chk m = L at *
      clear i0 i1 i2 cc
      generalize ps[i] = p at *
      by_cases hL : L = 0
      · subst hL
        have HF := Lib.hid (HQ.out rfl)
        go_wp2_with (go_at_call 8; (with_reducible refine CC.out.mono ?_); rintro e W1 ⟨rfl, bb⟩; have B1 := Lib.hid (HB.out.trans (bb.mono HB.out.size)); clear bb)
        exact ⟨⟨i + 1, by omega, by go_num, HF, B1⟩, by simp [intOf]; omega⟩
      · have hL2 : (L != 0) = true := by simpa using hL
        have HF := Lib.hid (HX.out hL)
        clear hL
        go_wp2_with (go_at_call 8; (with_reducible refine CC.out.mono ?_); rintro e W1 ⟨rfl, bb⟩; have B1 := Lib.hid (HB.out.trans (bb.mono HB.out.size)); clear bb)
        go_ret
        exact ⟨ret_int HF.out.symm, B1.out⟩
    · obtain rfl : i = ps.length := by omega
      have HF := Lib.hid (HE.out (fun j hj => HN.out j hj hj))
      go_wp2
      go_ret
      exact ⟨ret_int HF.out.symm, HB.out⟩
end Go.Proofs.Ytkhiogcdamjocaa
