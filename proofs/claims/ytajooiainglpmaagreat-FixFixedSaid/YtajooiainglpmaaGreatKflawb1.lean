/-
  fix.Holds and coneyref17.Holds, walked.
  A LIST OF SMALL INTEGERS THAT COMES IN.
  FixKeeps, walked.
  FixFixed, walked.
-/
import Derived.Test.YtajooiainglpmaaGreatKonce10
import Derived.Test.YtajooiainglpmaaGreatKonceb1
import Derived.Test.YtajooiainglpmaaGreatKonceb2
import Derived.Test.YtajooiainglpmaaGreatKdom4
import Derived.Test.YtajooiainglpmaaGreatKflaw1
import Derived.Test.YtajooiainglpmaaGreatKlin8
import Derived.Test.YtajooiainglpmaaGreatKrlaw1
import Derived.Test.YtajooiainglpmaaGreatKfix1
namespace Go.Proofs.YtajooiainglpmaaGreat
open Go.RowKit

structure HoldIn (ps : List PL) (ds : Ds) (xs : List Int) : Prop where
  fine : ∀ p ∈ ps, p.Fine ds
  xl : xs.length ≤ 4096
  xb : ∀ v ∈ xs, -200 ≤ v ∧ v ≤ 200
def allHold (ps : List PL) (xs : List Int) : Bool := ps.all fun p => holdsP p xs
theorem allHold_iff {ps : List PL} {xs : List Int} : allHold ps xs = true ↔ ∀ p ∈ ps, holdsP p xs = true := by unfold allHold; rw [List.all_eq_true]
theorem all_snoc {α : Type} {l : List α} {f : α → Bool} {k : Nat} (hk : k < l.length) (h : (l.take k).all f = true) (h2 : f l[k] = true) : (l.take (k + 1)).all f = true := by
  rw [List.take_succ_eq_append_getElem hk, List.all_append, h]; simp [h2]
theorem all_miss {α : Type} {l : List α} {f : α → Bool} {k : Nat} (hk : k < l.length) (h : f l[k] = false) : l.all f = false := by
  rw [Bool.eq_false_iff]
  intro h1
  rw [List.all_eq_true] at h1
  have := h1 _ (List.getElem_mem hk)
  rw [h] at this; cases this
set_option maxRecDepth 100000 in
theorem hold1_c (bx : Nat) (vx va vb vv : Value) (p : PL) (ds : Ds) (xs : List Int) (w : World) (hb : Box1 w bx vx) (hx : IsAt w vx xs) (h0 : IsAt w va p.coef) (h1 : IsAt w vb p.vars) (h2 : IsAt w vv p.vs) (hf : p.Fine ds) (hxl : xs.length ≤ 4096) (hxb : ∀ v ∈ xs, -200 ≤ v ∧ v ≤ 200) :
    Calls Tryz.prog 56 #[propV p.kind va vb p.rel p.c p.x p.y p.z vv, .pointer (some ⟨bx, 0, none⟩)] w fun e w' => e = .returned (.bool (!holdsP p xs)) ∧ Below w.heap.size w w' := by
  have CH := Lib.hid (fun W (h : Below w.heap.size w W) => relHolds_c p.kind va vb vv vx p.rel p.c p.x p.y p.z p.coef p.vars p.vs xs ds W (h0.below h) (h1.below h) (h2.below h) (hx.below h) hf hxl hxb)
  obtain ⟨a0, c0, rfl, _⟩ := SlAt.shape h0
  obtain ⟨a1, c1, rfl, _⟩ := SlAt.shape h1
  obtain ⟨a2, c2, rfl, _⟩ := SlAt.shape h2
  obtain ⟨a3, c3, rfl, _⟩ := SlAt.shape hx
  have hbc := hb.c0
  have HB := Lib.hid hb
  have HW : Hid (∀ o, Below w.heap.size w (w.alloc o)) := fun o => (Below.refl _ _).alloc (Nat.le_refl _) o
  have hbw : ∀ o, (w.alloc o).cell? ⟨bx, 0, none⟩ = some (.slice a3 xs.length c3) := fun o => Lib.cell?_alloc_some o hbc
  clear hb hx h0 h1 h2 hf
  unfold propV at CH ⊢
  obtain ⟨kind, rel, c, x, y, z, coef, vars, vs⟩ := p
  dsimp only at *
  generalize holdsP ⟨kind, rel, c, x, y, z, coef, vars, vs⟩ xs = hr at *
  go_enter Tryz.func56, Tryz.ntmps56
  go_wp2_with (go_at_call 11; (with_reducible refine (CH.out _ (HW.out _)).mono ?_); rintro e W1 ⟨rfl, bb⟩; have B1 := Lib.hid ((HW.out _).trans (bb.mono (HW.out _).size)); clear bb)
  go_ret
  exact ⟨rfl, B1.out⟩
set_option maxRecDepth 100000 in
set_option maxHeartbeats 800000 in
theorem idxHold_c (bx : Nat) (vx vps : Value) (ps : List PL) (ds : Ds) (xs : List Int) (w : World) (hb : Box1 w bx vx) (hx : IsAt w vx xs) (hp : PsAt w vps ps) (hi : HoldIn ps ds xs) (hpl : ps.length ≤ 4096) :
    Calls Tryz.prog 75 #[vps, .func (.func 56) #[] #[.pointer (some ⟨bx, 0, none⟩)]] w fun e w' => ∃ r : Int, e = .returned (.int .i64 r) ∧ ((allHold ps xs = true → r = -1) ∧ (allHold ps xs = false → 0 ≤ r)) ∧ Below w.heap.size w w' := by
  obtain ⟨a1, c1, rfl, _⟩ := hp.shape
  have HP := Lib.hid hp
  have HI := Lib.hid hi
  have HX := Lib.hid hx
  have HBX := Lib.hid hb
  clear hp hi hx hb
  go_enter Tryz.func75, Tryz.ntmps75
  go_wp2
  go_loopw [8] (fun s wr => ∃ k : Nat, k ≤ ps.length ∧ s = .int .i64 k ∧ Hid ((ps.take k).all (fun p => holdsP p xs) = true) ∧ Hid (Below w.heap.size w wr)) (fun s _ => ps.length - (intOf s).toNat)
  case atStart => exact ⟨0, by omega, rfl, by show _ = _; rfl, Lib.hid (Below.refl _ _)⟩
  case round =>
    obtain ⟨k, hk, rfl, HE, HB⟩ := hrel
    by_cases hlt : k < ps.length
    · obtain ⟨b1, o1, va, vb, vv, rfl, q1, cc, i0, i1, i2⟩ := HP.out.get k hlt
      have j1 : (k : Int) < ps.length := by omega
      obtain ⟨x0, x1, x2, x3, x4, x5, x6, x7, x8⟩ := cc.below q1 HB.out
      have hq := Nat.lt_of_lt_of_le q1 HB.out.size
      have CC0 : Calls Tryz.prog 56 #[propV ps[k].kind va vb ps[k].rel ps[k].c ps[k].x ps[k].y ps[k].z vv, .pointer (some ⟨bx, 0, none⟩)] wr fun e w' => e = .returned (.bool (!holdsP ps[k] xs)) ∧ Below wr.heap.size wr w' :=
        hold1_c bx vx va vb vv ps[k] ds xs wr (HBX.out.below HB.out HBX.out.lt) (HX.out.below HB.out) (i0.below HB.out) (i1.below HB.out) (i2.below HB.out) (HI.out.fine _ (List.getElem_mem hlt)) HI.out.xl HI.out.xb
      unfold propV at CC0
      have CC := Lib.hid CC0
      clear CC0
      obtain ⟨b3, n3, rfl, _⟩ := SlAt.shape i0
      obtain ⟨b4, n4, rfl, _⟩ := SlAt.shape i1
      obtain ⟨b5, n5, rfl, _⟩ := SlAt.shape i2
      have HS : Hid (holdsP ps[k] xs = true → (ps.take (k + 1)).all (fun p => holdsP p xs) = true) := fun h => all_snoc hlt HE.out h
      have HT : Hid (holdsP ps[k] xs = false → allHold ps xs = false) := fun h => all_miss hlt h
      clear i0 i1 i2 cc
      generalize holdsP ps[k] xs = hr at *
      generalize ps[k] = p at *
      cases hr with
      | false =>
        have HT2 := Lib.hid (HT.out rfl)
        have CC2 : Hid (Calls Tryz.prog 56 #[.agg #[.int .i64 p.kind, .slice b3 p.coef.length n3, .slice b4 p.vars.length n4, .int .i64 p.rel, .int .i64 p.c, .int .i64 p.x, .int .i64 p.y, .int .i64 p.z, .slice b5 p.vs.length n5], .pointer (some ⟨bx, 0, none⟩)] wr fun e w' => e = .returned (.bool true) ∧ Below wr.heap.size wr w') := CC.out
        clear CC HS HT
        go_wp2_with (go_at_call 56; (with_reducible refine CC2.out.mono ?_); rintro e W1 ⟨rfl, bb⟩; have B1 := Lib.hid (HB.out.trans (bb.mono HB.out.size)); clear bb)
        go_ret
        exact ⟨_, rfl, ⟨(fun h => by rw [HT2.out] at h; cases h), fun _ => by omega⟩, B1.out⟩
      | true =>
        have HS2 := Lib.hid (HS.out rfl)
        have CC2 : Hid (Calls Tryz.prog 56 #[.agg #[.int .i64 p.kind, .slice b3 p.coef.length n3, .slice b4 p.vars.length n4, .int .i64 p.rel, .int .i64 p.c, .int .i64 p.x, .int .i64 p.y, .int .i64 p.z, .slice b5 p.vs.length n5], .pointer (some ⟨bx, 0, none⟩)] wr fun e w' => e = .returned (.bool false) ∧ Below wr.heap.size wr w') := CC.out
        clear CC HS HT
        go_wp2_with (go_at_call 56; (with_reducible refine CC2.out.mono ?_); rintro e W1 ⟨rfl, bb⟩; have B1 := Lib.hid (HB.out.trans (bb.mono HB.out.size)); clear bb)
        exact ⟨⟨k + 1, by omega, by go_num, HS2, B1⟩, by simp [intOf]; omega⟩
    · obtain rfl : k = ps.length := by omega
      rw [List.take_length] at HE
      have HE2 : Hid (allHold ps xs = true) := HE.out
      go_wp2
      go_ret
      exact ⟨-1, rfl, ⟨fun _ => rfl, (fun h => by rw [HE2.out] at h; cases h)⟩, HB.out⟩
set_option maxRecDepth 100000 in
theorem containsHold_c (bx : Nat) (vx vps : Value) (ps : List PL) (ds : Ds) (xs : List Int) (w : World) (hb : Box1 w bx vx) (hx : IsAt w vx xs) (hp : PsAt w vps ps) (hi : HoldIn ps ds xs) (hpl : ps.length ≤ 4096) :
    Calls Tryz.prog 55 #[vps, .func (.func 56) #[] #[.pointer (some ⟨bx, 0, none⟩)]] w fun e w' => e = .returned (.bool (!allHold ps xs)) ∧ Below w.heap.size w w' := by
  have CI := Lib.hid (idxHold_c bx vx vps ps ds xs w hb hx hp hi hpl)
  clear hb hx hp hi
  cases hA : allHold ps xs with
  | true =>
    have CI2 : Hid (Calls Tryz.prog 75 #[vps, .func (.func 56) #[] #[.pointer (some ⟨bx, 0, none⟩)]] w fun e w' => e = .returned (.int .i64 (-1)) ∧ Below w.heap.size w w') := CI.out.mono fun e w' ⟨r, h1, h2, h3⟩ => by have h2 := h2.1 hA; subst h2; exact ⟨h1, h3⟩
    clear CI hA
    go_enter Tryz.func55, Tryz.ntmps55
    go_wp2_with (first | (go_at_call 75; ((with_reducible refine CI2.out.mono ?_); rintro e W1 ⟨rfl, b1⟩)))
    go_ret
    exact ⟨rfl, b1⟩
  | false =>
    have CI2 : Hid (Calls Tryz.prog 75 #[vps, .func (.func 56) #[] #[.pointer (some ⟨bx, 0, none⟩)]] w fun e w' => ∃ r : Int, e = .returned (.int .i64 r) ∧ 0 ≤ r ∧ Below w.heap.size w w') := CI.out.mono fun e w' ⟨r, h1, h2, h3⟩ => ⟨r, h1, h2.2 hA, h3⟩
    clear CI hA
    go_enter Tryz.func55, Tryz.ntmps55
    go_wp2_with (first | (go_at_call 75; ((with_reducible refine CI2.out.mono ?_); rintro e W1 ⟨r, rfl, hr, b1⟩)))
    go_ret
    exact ⟨ret_bool (by first | (simp; done) | (simp; omega)), b1⟩
set_option maxRecDepth 100000 in
theorem fixHolds_c (vx vps : Value) (ps : List PL) (ds : Ds) (xs : List Int) (w : World) (hx : IsAt w vx xs) (hp : PsAt w vps ps) (hi : HoldIn ps ds xs) (hpl : ps.length ≤ 4096) :
    Calls Tryz.prog 27 #[vps, vx] w fun e w' => e = .returned (.bool (allHold ps xs)) ∧ Below w.heap.size w w' := by
  have HW : Hid (∀ o, Below w.heap.size w (w.alloc o)) := fun o => (Below.refl _ _).alloc (Nat.le_refl _) o
  have CC : Hid (∀ T, Calls Tryz.prog 55 #[vps, .func (.func 56) #[] #[.pointer (some ⟨w.heap.size, 0, none⟩)]] (w.alloc (.cells #[vx] T)) fun e w' => e = .returned (.bool (!allHold ps xs)) ∧ Below (w.alloc (.cells #[vx] T)).heap.size (w.alloc (.cells #[vx] T)) w') := fun T => containsHold_c w.heap.size vx vps ps ds xs _ (Box1.mk' w vx T) (hx.below (HW.out _)) (hp.below (HW.out _)) hi hpl
  obtain ⟨a1, c1, rfl, _⟩ := hp.shape
  obtain ⟨a3, c3, rfl, _⟩ := SlAt.shape hx
  clear hx hp hi
  generalize allHold ps xs = hr at *
  go_enter Tryz.func27, Tryz.ntmps27
  go_wp2_with (go_at_call 55; (with_reducible refine (CC.out _).mono ?_); rintro e W1 ⟨rfl, bb⟩; have B1 := Lib.hid ((HW.out _).trans (bb.mono (HW.out _).size)); clear bb)
  go_ret
  exact ⟨ret_bool (by simp), B1.out⟩
set_option maxRecDepth 100000 in
set_option maxHeartbeats 800000 in
theorem refFixHolds_c (vx vps : Value) (ps : List PL) (ds : Ds) (xs : List Int) (w : World) (hx : IsAt w vx xs) (hp : PsAt w vps ps) (hi : HoldIn ps ds xs) (hpl : ps.length ≤ 4096) :
    Calls Tryz.prog 28 #[vps, vx] w fun e w' => e = .returned (.bool (allHold ps xs)) ∧ Below w.heap.size w w' := by
  obtain ⟨a1, c1, rfl, _⟩ := hp.shape
  obtain ⟨a3, c3, rfl, _⟩ := SlAt.shape hx
  have HP := Lib.hid hp
  have HI := Lib.hid hi
  have HX := Lib.hid hx
  clear hp hi hx
  go_enter Tryz.func28, Tryz.ntmps28
  go_wp2
  go_loopw [5] (fun s wr => ∃ k : Nat, k ≤ ps.length ∧ s = .int .i64 k ∧ Hid ((ps.take k).all (fun p => holdsP p xs) = true) ∧ Hid (Below w.heap.size w wr)) (fun s _ => ps.length - (intOf s).toNat)
  case atStart => exact ⟨0, by omega, rfl, by show _ = _; rfl, Lib.hid (Below.refl _ _)⟩
  case round =>
    obtain ⟨k, hk, rfl, HE, HB⟩ := hrel
    by_cases hlt : k < ps.length
    · obtain ⟨b1, o1, va, vb, vv, rfl, q1, cc, i0, i1, i2⟩ := HP.out.get k hlt
      have j1 : (k : Int) < ps.length := by omega
      obtain ⟨x0, x1, x2, x3, x4, x5, x6, x7, x8⟩ := cc.below q1 HB.out
      have hq := Nat.lt_of_lt_of_le q1 HB.out.size
      have CC0 : Calls Tryz.prog 57 #[propV ps[k].kind va vb ps[k].rel ps[k].c ps[k].x ps[k].y ps[k].z vv, .slice a3 xs.length c3] wr fun e w' => e = .returned (.bool (holdsP ps[k] xs)) ∧ Below wr.heap.size wr w' :=
        refHolds_c ps[k].kind va vb vv _ ps[k].rel ps[k].c ps[k].x ps[k].y ps[k].z ps[k].coef ps[k].vars ps[k].vs xs ds wr (i0.below HB.out) (i1.below HB.out) (i2.below HB.out) (HX.out.below HB.out) (HI.out.fine _ (List.getElem_mem hlt)) HI.out.xl HI.out.xb
      unfold propV at CC0
      have CC := Lib.hid CC0
      clear CC0
      obtain ⟨b3, n3, rfl, _⟩ := SlAt.shape i0
      obtain ⟨b4, n4, rfl, _⟩ := SlAt.shape i1
      obtain ⟨b5, n5, rfl, _⟩ := SlAt.shape i2
      have HS : Hid (holdsP ps[k] xs = true → (ps.take (k + 1)).all (fun p => holdsP p xs) = true) := fun h => all_snoc hlt HE.out h
      have HT : Hid (holdsP ps[k] xs = false → allHold ps xs = false) := fun h => all_miss hlt h
      clear i0 i1 i2 cc
      generalize holdsP ps[k] xs = hr at *
      generalize ps[k] = p at *
      cases hr with
      | false =>
        have HT2 := Lib.hid (HT.out rfl)
        go_wp2_with (go_at_call 57; (with_reducible refine CC.out.mono ?_); rintro e W1 ⟨rfl, bb⟩; have B1 := Lib.hid (HB.out.trans (bb.mono HB.out.size)); clear bb)
        go_ret
        exact ⟨ret_bool HT2.out.symm, B1.out⟩
      | true =>
        have HS2 := Lib.hid (HS.out rfl)
        go_wp2_with (go_at_call 57; (with_reducible refine CC.out.mono ?_); rintro e W1 ⟨rfl, bb⟩; have B1 := Lib.hid (HB.out.trans (bb.mono HB.out.size)); clear bb)
        exact ⟨⟨k + 1, by omega, by go_num, HS2, B1⟩, by simp [intOf]; omega⟩
    · obtain rfl : k = ps.length := by omega
      rw [List.take_length] at HE
      have HE2 : Hid (allHold ps xs = true) := HE.out
      go_wp2
      go_ret
      exact ⟨ret_bool HE2.out.symm, HB.out⟩
end Go.Proofs.YtajooiainglpmaaGreat
namespace Go.Proofs.YtajooiainglpmaaGreat
open Go.RowKit Go.ChangeShapes Go.WideShapes Go.ChangeAt

set_option maxRecDepth 100000 in
theorem cellsI16 : Tryz.prog.cellsOf 56 = 1 := by kernel_rfl
set_option maxRecDepth 100000 in
theorem open_i8s {H : Type} {enc : TypeId × Value → H} {w : World} {sp : Nat → Bool} {held : Bool} {base : Nat} {v : Value} {d : DataW H} {ps : List MemPlace}
    (hval : Value.okWide Tryz.prog w .any base 55 v) (h0 : DataW.Trod enc Tryz.prog w 0 sp held 55 v d ps) : ∃ zs : List Int, SlAt w 1 v zs.length (zs.map (Value.int .i8)) ∧ ∀ z ∈ zs, -128 ≤ z ∧ z ≤ 127 := by
  obtain ⟨a0, l0, c0, rfl⟩ := okWide_slice Tryz.underlying55 hval
  obtain ⟨fuel, h⟩ := Joins.field_of_Trod h0 rfl
  obtain ⟨n, xs, hS, hE⟩ := open_sl (k := 1) Tryz.underlying55 cellsI16 h
  have hx : ∀ i, i < n → ∃ z : Int, xs[i]? = some (.int .i8 z) ∧ (Lit.int .i8 z).wf = true := fun i hi => by
    obtain ⟨m, y, hy⟩ := hE i hi
    obtain ⟨z, hz, _, hwf⟩ := DataW.trod_int Tryz.underlying56 hy
    refine ⟨z, ?_, hwf⟩
    have := congrArg (·[0]?) hz
    simpa [List.getElem?_take, List.getElem?_drop] using this
  obtain ⟨f, hf⟩ := Deep.choose_lt hx
  have hl := hS.len
  have e : xs = ((List.range n).map f).map (Value.int .i8) := by
    apply List.ext_getElem?
    intro i
    by_cases hi : i < n
    · rw [(hf i hi).1]; simp [hi]
    · rw [List.getElem?_eq_none (by omega), List.getElem?_eq_none (by simp; omega)]
  refine ⟨(List.range n).map f, ?_, fun z hz => ?_⟩
  · rw [← e]
    simpa using hS
  · obtain ⟨i, hi, rfl⟩ := List.mem_map.1 hz
    have := (hf i (by simpa using hi)).2
    simpa [Lit.wf, IntKind.min, IntKind.max, IntKind.bits, IntKind.signed] using this
end Go.Proofs.YtajooiainglpmaaGreat
namespace Go.Proofs.YtajooiainglpmaaGreat
open Go.RowKit

/-- values of the domains -/
structure PickedX (ds : Ds) (xs : List Int) : Prop where
  len : xs.length = ds.length
  has : ∀ j, j < ds.length → memL (norm (ds.getD j [])) (xs.getD j 0) = true
  bnd : ∀ z ∈ xs, -200 ≤ z ∧ z ≤ 200

theorem allN_len {r : Ds} (h : AllN r) (j : Nat) (hj : j < r.length) : r[j].length ≤ 4096 := by
  have h1 := h j
  rw [List.getD_eq_getElem?_getD, List.getElem?_eq_getElem hj, Option.getD_some] at h1
  have := norm_of_normal h1
  have h2 := norm_len r[j]
  rw [this] at h2; omega
theorem PL.Fine.toLin {p : PL} {ds : Ds} (h : p.Fine ds) : p.Lin ds.length := ⟨h.good, fun hk => (h.lin hk).2.1⟩
theorem PickedX.has' {ds : Ds} {xs : List Int} (h : PickedX ds xs) : Has (ds.map norm) xs := ⟨by rw [h.len]; simp, fun j hj => by
  have hj' : j < ds.length := by simpa using hj
  have := h.has j hj'
  rw [List.getD_eq_getElem?_getD, List.getElem?_eq_getElem hj', Option.getD_some] at this
  rw [List.getD_eq_getElem?_getD (l := ds.map norm), List.getElem?_map, List.getElem?_eq_getElem hj']
  exact this⟩

set_option maxRecDepth 100000 in
set_option maxHeartbeats 1600000 in
theorem fixKeeps_bad (vds vps vp : Value) (zs : List Int) (ds : Ds) (ps : List PL) (w : World) (hd : DsAt w vds ds) (hpp : PsAt w vps ps) (hp : U16At w vp zs) (hn : zs.length ≤ 100 → right17 ds ps = false) :
    Calls Tryz.prog 8 #[vds, vps, vp] w fun e w' => e = .returned (.bool true) ∧ Below w.heap.size w w' := by
  have CM := Lib.hid (right17_c vds vps ds ps w hd hpp)
  have CK3 := Lib.hid fixCheck_nil
  have CK9 := Lib.hid fixCheck_p0
  obtain ⟨a0, c0, rfl, _⟩ := hd.shape
  obtain ⟨a1, c1, rfl, _⟩ := hpp.shape
  obtain ⟨a4, c4, rfl, hpl, hpc⟩ := SlAt.shape hp
  unfold maxLen at hpc
  clear hd hp hpp
  by_cases g : 100 < zs.length
  · clear CM hn
    have j1 : (100 : Int) < zs.length := by omega
    go_enter Tryz.func8, Tryz.ntmps8
    go_wp2_with (first
      | (go_at_call 26; (with_reducible refine (CK3.out _).mono ?_); rintro e W1 ⟨rfl, bb⟩; have B1 := Lib.hid bb; clear bb)
      | (go_at_call 26; (with_reducible refine (CK9.out _ _).mono ?_); rintro e W2 ⟨rfl, bb⟩; have B2 := Lib.hid (B1.out.trans (bb.mono B1.out.size)); clear bb))
    go_ret
    exact ⟨rfl, B2.out⟩
  · rw [hn (by omega)] at CM
    clear hn
    have j1 : ¬ (100 : Int) < zs.length := by omega
    go_enter Tryz.func8, Tryz.ntmps8
    go_wp2_with (first
      | (go_at_call 25; (with_reducible refine CM.out.mono ?_); rintro e W1 ⟨rfl, bb⟩; have B1 := Lib.hid bb; clear bb)
      | (go_at_call 26; (with_reducible refine (CK3.out _).mono ?_); rintro e W2 ⟨rfl, bb⟩; have B2 := Lib.hid (B1.out.trans (bb.mono B1.out.size)); clear bb)
      | (go_at_call 26; (with_reducible refine (CK9.out _ _).mono ?_); rintro e W3 ⟨rfl, bb⟩; have B3 := Lib.hid (B2.out.trans (bb.mono B2.out.size)); clear bb))
    go_ret
    exact ⟨rfl, B3.out⟩
theorem PickedX.hold {ds : Ds} {ps : List PL} {xs : List Int} (h : PickedX ds xs) (hi : FixIn ds ps) : HoldIn ps ds xs := ⟨hi.fine, by have := h.len; have := hi.n; omega, h.bnd⟩
set_option maxRecDepth 100000 in
set_option maxHeartbeats 6400000 in
theorem fixKeeps_good (vds vps vp : Value) (zs : List Int) (ds : Ds) (ps : List PL) (w : World) (hd : DsAt w vds ds) (hpp : PsAt w vps ps) (hp : U16At w vp zs) (hz : ∀ z ∈ zs, 0 ≤ z ∧ z ≤ 65535) (hzl : zs.length ≤ 100) (hr : right17 ds ps = true) :
    Calls Tryz.prog 8 #[vds, vps, vp] w fun e w' => e = .returned (.bool true) ∧ Below w.heap.size w w' := by
  obtain ⟨i0, hi, hz0, hz1, hz2⟩ := info_parts Tryz.infoInt
  have CM := Lib.hid (right17_c vds vps ds ps w hd hpp)
  rw [hr] at CM
  have hin := right17_in hr
  obtain ⟨R, hR⟩ := fixOf_exists (ps := ps) (D := ds) (fun p hp => (hin.fine p hp).good)
  have CF : Hid (∀ W, Below w.heap.size w W → Calls Tryz.prog 22 #[vds, vps] W (RetO R W)) := fun W h => fix_r (hd.below h) (hpp.below h) hin hR
  have CH : Hid (∀ vx xs W, Below w.heap.size w W → IsAt W vx xs → PickedX ds xs → Calls Tryz.prog 27 #[vps, vx] W fun e w' => e = .returned (.bool (allHold ps xs)) ∧ Below W.heap.size W w') := fun vx xs W h hx hpx => fixHolds_c vx vps ps ds xs W hx (hpp.below h) (hpx.hold hin) (by have := hin.P; omega)
  have CG : Hid (∀ vx xs W, Below w.heap.size w W → IsAt W vx xs → PickedX ds xs → Calls Tryz.prog 28 #[vps, vx] W fun e w' => e = .returned (.bool (allHold ps xs)) ∧ Below W.heap.size W w') := fun vx xs W h hx hpx => refFixHolds_c vx vps ps ds xs W hx (hpp.below h) (hpx.hold hin) (by have := hin.P; omega)
  have HKP : Hid (∀ xs, PickedX ds xs → allHold ps xs = true → ∃ r, R = some r ∧ r.length = ds.length ∧ AllN r ∧ ∀ j, j < ds.length → memL (r.getD j []) (xs.getD j 0) = true) := fun xs hx hh => fixOf_keeps (fun p hp => (hin.fine p hp).toLin) hx.bnd hx.has' (allHold_iff.1 hh) hR
  have HD := Lib.hid hd
  have HP := Lib.hid hp
  have HZ := Lib.hid hz
  have hn100 := hin.n
  have HM4 := Lib.hid hin.dm
  obtain ⟨a2, c2, rfl, _⟩ := hd.shape
  obtain ⟨a1, c1, rfl, _⟩ := hpp.shape
  obtain ⟨a3, c3, rfl, hpl, hpc⟩ := SlAt.shape hp
  unfold maxLen at hpc
  have j0 : ¬ (100 : Int) < zs.length := by omega
  clear hd hp hpp hz hin hr hR
  go_enter Tryz.func8, Tryz.ntmps8
  go_wp2_with (go_at_call 25; (with_reducible refine CM.out.mono ?_); rintro e W1 ⟨rfl, bb⟩; have B1 := Lib.hid bb; clear bb)
  go_loopw [7, 8] (fun o s wr => ∃ xs : List Int, xs.length ≤ ds.length ∧ s = .int .i64 xs.length ∧ wr.ownsRow W1.heap.size 3 1 o xs.length (xs.map (Value.int .i64)) ∧ Hid (Below W1.heap.size W1 wr) ∧ Hid (∀ j, j < xs.length → memL (norm (ds.getD j [])) (xs.getD j 0) = true) ∧ Hid (∀ z ∈ xs, -200 ≤ z ∧ z ≤ 200)) (fun _ s _ => ds.length - (intOf s).toNat)
  case atStart => exact ⟨[], by simp, rfl, World.ownsRow_made W1 #[] 0 (Nat.le_refl _) (by decide) rfl, Lib.hid ((Below.refl _ _).alloc (Nat.le_refl _) _), fun j h => by simp at h, fun z h => by simp at h⟩
  case round =>
    obtain ⟨xs, hxl, rfl, hown, HB1, HM, HX⟩ := hrel
    have HB : Hid (Below w.heap.size w wr) := B1.out.trans (HB1.out.mono B1.out.size)
    have hle := HB.out.size
    have hle1 := HB1.out.size
    by_cases hlt : xs.length < ds.length
    · obtain ⟨b, off, ao, cap, rfl, q1, q2, _, hc, hrg⟩ := HD.out.get xs.length hlt
      have j1 : (xs.length : Int) < ds.length := by omega
      have hgd := getD_at ds xs.length hlt []
      have hdl : ds[xs.length].length ≤ 4096 := HM4.out _ (List.getElem_mem hlt)
      have HC0 := Lib.hid hc
      rw [← HB.out.cell (p := ⟨b, off + xs.length, none⟩) q2] at hc
      have CS := Lib.hid (refSize_c _ _ wr (hrg.below HB.out) hdl)
      have HRG := Lib.hid (hrg.below HB.out)
      have hsb := size_bnd ds[xs.length]
      have hpl := fun (q : Int) (g1 : 0 ≤ q) (g2 : q < sizeL (norm ds[xs.length])) => placeS_in (memL ds[xs.length]) q g1 g2
      have HMS : Hid (∀ v, -200 ≤ v → v ≤ 200 → memL ds[xs.length] v = true → (∀ j, j < (xs ++ [v]).length → memL (norm (ds.getD j [])) ((xs ++ [v]).getD j 0) = true) ∧ ∀ z ∈ xs ++ [v], -200 ≤ z ∧ z ≤ 200) := fun v g1 g2 g3 => by
        refine ⟨fun j hj => ?_, fun z hz => ?_⟩
        · rw [List.length_append, List.length_singleton] at hj
          by_cases h : j < xs.length
          · rw [getD_snoc_lt _ _ _ h]; exact HM.out j h
          · obtain rfl : j = xs.length := by omega
            rw [hgd, getD_snoc_at]
            show memL _ v = true
            rw [memL_norm, g3]; simp [inD]; omega
        · rcases List.mem_append.1 hz with h | h
          · exact HX.out z h
          · simp at h; subst h; exact ⟨g1, g2⟩
      have CA : Hid (∀ (q : Int) W, Below wr.heap.size wr W → 0 ≤ q → q < sizeL (norm ds[xs.length]) → Calls Tryz.prog 15 #[.slice ao ds[xs.length].length cap, .int .i64 q] W fun e w' => (∃ v, e = .returned (.tuple #[.int .i64 v, .bool true]) ∧ -200 ≤ v ∧ v ≤ 200 ∧ memL ds[xs.length] v = true) ∧ W = w') := fun q W h g1 g2 => by
        obtain ⟨v, hv, hv1, hv2, hv3⟩ := hpl q g1 g2
        have ha := refAt_c _ _ q W (HRG.out.below h) hdl (by omega)
        have e : (if q < 0 then none else atL (norm ds[xs.length]) q) = some v := hv
        rw [e] at ha
        exact ha.mono fun e w' ⟨h1, h2⟩ => ⟨⟨v, h1, hv1, hv2, hv3⟩, h2⟩
      clear hrg hpl hgd hdl
      generalize ds[xs.length] = d at *
      generalize sizeL (norm d) = n at *
      obtain ⟨hn1, hn2⟩ := hsb
      by_cases hn0 : n = 0
      · have hz : (n == 0) = true := by simpa using hn0
        clear hn0
        go_wp2_with (go_at_call 10; (with_reducible refine CS.out.mono ?_); rintro e W5 ⟨rfl, bb⟩; have Q5 := Lib.hid (HB.out.trans (bb.mono hle)); clear bb)
        go_ret
        exact ⟨rfl, Q5.out⟩
      · have hz : (n == 0) = false := beqf hn0
        have hnp : 0 < n := by omega
        by_cases hzl : xs.length < zs.length
        · obtain ⟨b3, o3, rfl, q3, q4, x3⟩ := HP.out.get xs.length hzl
          have hzb := HZ.out _ (List.getElem_mem hzl)
          have j2 : (xs.length : Int) < zs.length := by omega
          generalize zs[xs.length] = z at *
          obtain ⟨hzb1, hzb2⟩ := hzb
          have t1 : 0 ≤ z.tmod n := Int.tmod_nonneg _ hzb1
          have t2 : z.tmod n < n := Int.tmod_lt_of_pos z hnp
          generalize hq : z.tmod n = q at *
          go_wp2_with (first
            | (go_at_call 10; (with_reducible refine CS.out.mono ?_); rintro e W5 ⟨rfl, bb⟩; have Q5 := Lib.hid (HB.out.trans (bb.mono hle)); have P5 := Lib.hid bb; have R5 := Lib.hid (HB1.out.trans (bb.mono hle1)); have c5 := (Q5.out.cell (p := ⟨b, off + xs.length, none⟩) q2).trans HC0.out; have x5 := (Q5.out.cell (p := ⟨b3, o3 + xs.length, none⟩) q4).trans x3; have own5 := own_below hown bb; have hs5 := bb.size; clear bb)
            | (go_at_call 15; (with_reducible refine (CA.out q _ P5.out t1 t2).mono ?_); rintro e w' ⟨⟨v, rfl, v1, v2, v3⟩, rfl⟩)
            | (at_builtin; refine wpList_append1 rfl (.tmp 68) (.tmp 70) 26 rfl W1.heap.size 3 i0 (.int .i64 0) 8 Tryz.underlying26 hi hz0 hz1 hz2 rfl _ _ _ rfl own5 _ rfl rfl (by omega) (by omega) ?_; intro v' w1 ow bw _ _))
          refine ⟨⟨xs ++ [v], by simp; omega, by rw [List.length_append]; go_num, by rw [List.length_append, List.map_append]; exact ow, Lib.hid (R5.out.trans bw), (HMS.out v v1 v2 v3).1, (HMS.out v v1 v2 v3).2⟩, by simp [intOf]; omega⟩
        · go_wp2_with (first
            | (go_at_call 10; (with_reducible refine CS.out.mono ?_); rintro e W5 ⟨rfl, bb⟩; have Q5 := Lib.hid (HB.out.trans (bb.mono hle)); have P5 := Lib.hid bb; have R5 := Lib.hid (HB1.out.trans (bb.mono hle1)); have c5 := (Q5.out.cell (p := ⟨b, off + xs.length, none⟩) q2).trans HC0.out; have own5 := own_below hown bb; have hs5 := bb.size; clear bb)
            | (go_at_call 15; (with_reducible refine (CA.out 0 _ P5.out (Int.le_refl _) hnp).mono ?_); rintro e w' ⟨⟨v, rfl, v1, v2, v3⟩, rfl⟩)
            | (at_builtin; refine wpList_append1 rfl (.tmp 68) (.tmp 70) 26 rfl W1.heap.size 3 i0 (.int .i64 0) 8 Tryz.underlying26 hi hz0 hz1 hz2 rfl _ _ _ rfl own5 _ rfl rfl (by omega) (by omega) ?_; intro v' w1 ow bw _ _))
          refine ⟨⟨xs ++ [v], by simp; omega, by rw [List.length_append]; go_num, by rw [List.length_append, List.map_append]; exact ow, Lib.hid (R5.out.trans bw), (HMS.out v v1 v2 v3).1, (HMS.out v v1 v2 v3).2⟩, by simp [intOf]; omega⟩
    · have hxe : xs.length = ds.length := by omega
      have HPX : Hid (PickedX ds xs) := ⟨hxe, fun j hj => HM.out j (by omega), HX.out⟩
      have hsa := SlAt.of_own hown
      obtain ⟨xa, xc, rfl, _⟩ := hsa.shape
      have HXA : Hid (IsAt wr (.slice xa xs.length xc) xs) := hsa
      obtain ⟨W2, hW2⟩ : ∃ W2 : World, W2 = wr := ⟨_, rfl⟩
      subst hW2
      have CH1 : Hid (∀ W, Below W2.heap.size W2 W → Calls Tryz.prog 27 #[.slice a1 ps.length c1, .slice xa xs.length xc] W fun e w' => e = .returned (.bool (allHold ps xs)) ∧ Below W.heap.size W w') := fun W h => CH.out _ xs W (HB.out.trans (h.mono hle)) (HXA.out.below h) HPX.out
      have CG1 : Hid (∀ W, Below W2.heap.size W2 W → Calls Tryz.prog 28 #[.slice a1 ps.length c1, .slice xa xs.length xc] W fun e w' => e = .returned (.bool (allHold ps xs)) ∧ Below W.heap.size W w') := fun W h => CG.out _ xs W (HB.out.trans (h.mono hle)) (HXA.out.below h) HPX.out
      have CF1 : Hid (∀ W, Below W2.heap.size W2 W → Calls Tryz.prog 22 #[.slice a2 ds.length c2, .slice a1 ps.length c1] W (RetO R W)) := fun W h => CF.out W (HB.out.trans (h.mono hle))
      have HKP1 := Lib.hid (HKP.out xs HPX.out)
      have HB2 := Lib.hid HB.out
      clear hxe HKP CH CG CF hown hsa HM HX HZ HP CM HB HB1 hle1 HD HM4
      cases hA : allHold ps xs with
      | false =>
        rw [hA] at CH1 CG1
        have CF2 : Hid (∀ W, Below W2.heap.size W2 W → Calls Tryz.prog 22 #[.slice a2 ds.length c2, .slice a1 ps.length c1] W fun e w' => (∃ v b, e = .returned (.tuple #[v, .bool b])) ∧ Below W.heap.size W w') := (fun W h => (CF1.out W h).mono fun e w' hh => by
          obtain ⟨hb, ⟨ds', ao, cap, _, he, _⟩ | ⟨_, he⟩⟩ := hh
          · exact ⟨⟨_, _, he⟩, hb⟩
          · exact ⟨⟨_, _, he⟩, hb⟩)
        clear CF1 HKP1 hA
        go_wp2_with (first
          | (go_at_call 27; (with_reducible refine (CH1.out _ (Below.refl _ _)).mono ?_); rintro e W3 ⟨rfl, bb⟩; have P3 := Lib.hid bb; clear bb)
          | (go_at_call 28; (with_reducible refine (CG1.out _ P3.out).mono ?_); rintro e W4 ⟨rfl, bb⟩; have P4 := Lib.hid (P3.out.trans (bb.mono P3.out.size)); clear bb)
          | (go_at_call 22; (with_reducible refine (CF2.out _ P4.out).mono ?_); rintro e W5 ⟨⟨v5, b5, rfl⟩, bb⟩; have P5 := Lib.hid (P4.out.trans (bb.mono P4.out.size)); clear bb))
        go_ret
        exact ⟨rfl, HB2.out.trans (P5.out.mono hle)⟩
      | true =>
        rw [hA] at CH1 CG1
        obtain ⟨r, rfl, hrl, hrn, hrx⟩ := HKP1.out hA
        have HRL := Lib.hid hrl
        have HRN := Lib.hid hrn
        have HRX := Lib.hid hrx
        have CF2 : Hid (∀ W, Below W2.heap.size W2 W → Calls Tryz.prog 22 #[.slice a2 ds.length c2, .slice a1 ps.length c1] W fun e w' => ∃ ao cap, e = .returned (.tuple #[.slice ao ds.length cap, .bool true]) ∧ DsAt w' (.slice ao ds.length cap) r ∧ Below W.heap.size W w') := (fun W h => (CF1.out W h).mono fun e w' hh => by
          obtain ⟨hb, ⟨ds', ao, cap, h1, he, h3⟩ | ⟨h1, _⟩⟩ := hh
          · cases h1
            rw [hrl] at he h3
            exact ⟨ao, cap, he, h3, hb⟩
          · cases h1)
        clear CF1 HKP1 hA hrl hrn hrx
        go_wp2_with (first
          | (go_at_call 27; (with_reducible refine (CH1.out _ (Below.refl _ _)).mono ?_); rintro e W3 ⟨rfl, bb⟩; have P3 := Lib.hid bb; clear bb)
          | (go_at_call 28; (with_reducible refine (CG1.out _ P3.out).mono ?_); rintro e W4 ⟨rfl, bb⟩; have P4 := Lib.hid (P3.out.trans (bb.mono P3.out.size)); clear bb)
          | (go_at_call 22; (with_reducible refine (CF2.out _ P4.out).mono ?_); rintro e W5 ⟨a5, c5, rfl, d5, bb⟩; have D5 := Lib.hid d5; have P5 := Lib.hid (P4.out.trans (bb.mono P4.out.size)); clear bb d5))
        have X5 := Lib.hid (show IsAt W5 (.slice xa xs.length xc) xs from HXA.out.below P5.out)
        have B5 := Lib.hid (HB2.out.trans (P5.out.mono hle))
        clear CH1 CG1 CF2 HXA P3 P4 P5
        go_loopw [16] (fun s wr => ∃ k : Nat, k ≤ ds.length ∧ s = .int .i64 k ∧ Hid (Below W5.heap.size W5 wr)) (fun s _ => ds.length - (intOf s).toNat)
        case atStart => exact ⟨0, by omega, rfl, Lib.hid (Below.refl _ _)⟩
        case round =>
          obtain ⟨k, hk, rfl, HQ⟩ := hrel
          by_cases hlt : k < ds.length
          · have hkr : k < r.length := by have := HRL.out; omega
            have hkx : k < xs.length := by have := HPX.out.len; omega
            obtain ⟨b, off, ao, cap, rfl, q1, q2, hjk, hc, hrg⟩ := D5.out.get k hkr
            clear hjk
            obtain ⟨b3, o3, rfl, q3, q4, x3⟩ := X5.out.get k hkx
            have j1 : (k : Int) < ds.length := by omega
            have j2 : (k : Int) < xs.length := by omega
            have hrl := allN_len HRN.out k hkr
            have CHs := Lib.hid (fun n => refHas_c _ r[k] xs[k] (wr.drewN n) (SlAt.drewN (RgAt.below hrg HQ.out) n) hrl)
            have hmm := HRX.out k hlt
            rw [getD_at r k hkr, getD_at xs k hkx] at hmm
            have hxk := HPX.out.bnd _ (List.getElem_mem hkx)
            have hin : (inD xs[k] && memL r[k] xs[k]) = true := by rw [hmm]; simp [inD]; omega
            rw [hin] at CHs
            clear hmm hin hrg
            generalize r[k] = rk at *
            generalize xs[k] = xk at *
            rw [← HQ.out.cell (p := ⟨b, off + k, none⟩) q2] at hc
            rw [← HQ.out.cell (p := ⟨b3, o3 + k, none⟩) q4] at x3
            go_wp2
            go_quiet ((go_at_call 16; exact quietHere (CHs.out _)))
            go_wp2
            exact ⟨⟨k + 1, by omega, by go_num, Lib.hid (below_drewN HQ.out _)⟩, by simp [intOf]; omega⟩
          · go_wp2
            go_ret
            exact ⟨rfl, B5.out.trans (HQ.out.mono B5.out.size)⟩
theorem fixKeeps_any (vds vps vp : Value) (zs : List Int) (ds : Ds) (ps : List PL) (w : World) (hd : DsAt w vds ds) (hpp : PsAt w vps ps) (hp : U16At w vp zs) (hz : ∀ z ∈ zs, 0 ≤ z ∧ z ≤ 65535) :
    Calls Tryz.prog 8 #[vds, vps, vp] w fun e w' => e = .returned (.bool true) ∧ Below w.heap.size w w' := by
  by_cases hzl : zs.length ≤ 100
  · cases hr : right17 ds ps with
    | false => exact fixKeeps_bad vds vps vp zs ds ps w hd hpp hp (fun _ => hr)
    | true => exact fixKeeps_good vds vps vp zs ds ps w hd hpp hp hz hzl hr
  · exact fixKeeps_bad vds vps vp zs ds ps w hd hpp hp (fun h => absurd h hzl)
end Go.Proofs.YtajooiainglpmaaGreat
namespace Go.Proofs.YtajooiainglpmaaGreat
open Go.RowKit

def I8At (w : World) (v : Value) (zs : List Int) : Prop := SlAt w 1 v zs.length (zs.map (Value.int .i8))
theorem I8At.below {w w' : World} {v : Value} {zs : List Int} (h : I8At w v zs) (hb : Below w.heap.size w w') : I8At w' v zs := SlAt.below h hb
theorem I8At.get {w : World} {ao : Option Addr} {n cap : Nat} {zs : List Int} (h : I8At w (.slice ao n cap) zs) (k : Nat) (hk : k < zs.length) :
    ∃ b off, ao = some ⟨b, off, none⟩ ∧ zs.length ≤ cap ∧ b < w.heap.size ∧ w.cell? ⟨b, off + k, none⟩ = some (.int .i8 zs[k]) := by
  obtain ⟨b, off, c', he, hc, _, hb, hx⟩ := SlAt.pos h (by omega)
  simp only [Value.slice.injEq] at he
  obtain ⟨rfl, rfl, rfl⟩ := he
  exact ⟨b, off, rfl, hc, hb, by rw [hx k (by omega), List.getElem?_map, List.getElem?_eq_getElem hk]; rfl⟩
theorem tmod20 (z : Int) : -19 ≤ z.tmod 20 ∧ z.tmod 20 ≤ 19 := by
  have h := Int.natAbs_tmod z 20
  have h2 : z.natAbs % 20 < 20 := Nat.mod_lt _ (by decide)
  have h3 : (20 : Int).natAbs = 20 := rfl
  rw [h3] at h
  omega

set_option maxRecDepth 100000 in
set_option maxHeartbeats 6400000 in
theorem fixFixed_any (vps vp : Value) (ps : List PL) (zs : List Int) (w : World) (hpp : PsAt w vps ps) (hp : I8At w vp zs) (hz : ∀ z ∈ zs, -128 ≤ z ∧ z ≤ 127) :
    Calls Tryz.prog 9 #[vps, vp] w fun e w' => e = .returned (.bool true) ∧ Below w.heap.size w w' := by
  obtain ⟨i0, hi, hz0, hz1, hz2⟩ := info_parts Tryz.infoInt
  obtain ⟨i5, ki, kz0, kz1, kz2⟩ := info_parts Tryz.infoRgs
  have HPP := Lib.hid hpp
  have HP := Lib.hid hp
  obtain ⟨a1, c1, rfl, _⟩ := hpp.shape
  obtain ⟨a4, c4, rfl, hpl, hpc⟩ := SlAt.shape hp
  unfold maxLen at hpc
  have HZ := Lib.hid hz
  clear hpp hp hz
  go_enter Tryz.func9, Tryz.ntmps9
  go_wp2
  go_loopw [5, 6, 7] (fun o1 o2 s wr => ∃ ys : List Int, ∃ us : List Value, ys.length ≤ zs.length ∧ ys.length ≤ 5 ∧ s = .int .i64 ys.length ∧ Hid (TwoL wr w.heap.size o1 o2 (single ys) ys us) ∧ Hid (Below w.heap.size w wr) ∧ Hid (∀ v ∈ ys, -19 ≤ v ∧ v ≤ 19)) (fun _ _ s _ => 5 - (intOf s).toNat)
  case atStart =>
    refine ⟨[], [], by simp, by simp, rfl, Lib.hid ⟨DsApp.nil ?_, ?_, ?_, fun j hj => by simp [single] at hj⟩, Lib.hid (((Below.refl _ _).alloc (Nat.le_refl _) _).alloc (by simp) _), fun v hv => by simp at hv⟩
    · exact own_below (World.ownsRow_made w #[] 0 (Nat.le_refl _) (by decide) rfl) ((Below.refl _ _).alloc (Nat.le_refl _) _)
    · exact own_made1 w _
    · intro b hb he
      simp [Value.ownBlock] at hb he
      omega
  case round =>
    obtain ⟨ys, us, hyl, hy7, rfl, HT, HB, HY⟩ := hrel
    have hle := HB.out.size
    by_cases hgo : ys.length < zs.length ∧ ys.length < 5
    · obtain ⟨hlt, hlt7⟩ := hgo
      obtain ⟨b3, o3, rfl, q3, q4, x3⟩ := HP.out.get ys.length hlt
      have j1 : (ys.length : Int) < zs.length := by omega
      have j2 : (ys.length : Int) < 5 := by omega
      rw [← HB.out.cell (p := ⟨b3, o3 + ys.length, none⟩) q4] at x3
      have t40 := tmod20 zs[ys.length]
      have hzb := HZ.out _ (List.getElem_mem hlt)
      generalize zs[ys.length] = z0 at *
      obtain ⟨hzb1, hzb2⟩ := hzb
      generalize hq : z0.tmod 20 = n at *
      have HY2 : Hid (∀ v ∈ ys ++ [n], -19 ≤ v ∧ v ≤ 19) := fun v hv => by
        rcases List.mem_append.1 hv with h | h
        · exact HY.out v h
        · simp at h; subst h; exact t40
      have HO1 := HT.out.app.2.1
      rw [single_len] at HO1
      have HO1 := Lib.hid HO1
      have HO2 := Lib.hid HT.out.own
      go_wp2_with (first
        | (at_builtin; refine wpList_append1L rfl (.tmp 30) (.tmp 32) 26 rfl w.heap.size 3 i0 (.int .i64 0) 8 Tryz.underlying26 hi hz0 hz1 hz2 rfl _ _ _ rfl HO2.out _ rfl rfl (by omega) (by omega) ?_; intro g2 cap2 w1 ow2 bw2 kw2 gw2; have OW2 := Lib.hid ow2; have KW2 := Lib.hid kw2; have GW2 := Lib.hid gw2; have BW2 := Lib.hid bw2; have hs1 := bw2.size; have HO3 := Lib.hid (own_below (own_kept HO1.out kw2 HT.out.ap) ((Below.refl _ _).alloc (Nat.le_refl _) (.cells #[.int .i64 n, .int .i64 n] 32))); clear ow2 kw2 gw2 bw2)
        | (at_builtin; refine wpList_append1L rfl (.tmp 34) (.tmp 39) 33 rfl w.heap.size 22 i5 (.slice none 0 0) 24 Tryz.underlying33 ki kz0 kz1 kz2 rfl _ _ _ rfl HO3.out _ (by first | rfl | (show Value.slice _ _ _ = _; simp)) rfl (by omega) (by simp; omega) ?_; intro g1 cap1 w5 ow bw kw gw))
      refine ⟨⟨ys ++ [n], us ++ [.slice (some ⟨w1.heap.size, 0, none⟩) 1 1], by simp; omega, by simp; omega, by rw [List.length_append]; go_num, ?_, ?_, HY2⟩, by simp [intOf]; omega⟩
      · exact Lib.hid (TwoL.one HT.out OW2.out KW2.out GW2.out ow kw gw)
      · exact Lib.hid ((HB.out.trans BW2.out).trans (((Below.refl _ _).alloc (Nat.le_trans hle hs1) _).trans bw))
    · have HI : Hid (IsAt wr u6 ys) := SlAt.of_own HT.out.own
      have HD : Hid (DsAt wr u5 (single ys)) := HT.out.app.own.at
      clear HT
      obtain ⟨ya, yc, rfl, _⟩ := IsAt.shape HI.out
      obtain ⟨da, dc, hds, _⟩ := HD.out.shape
      rw [single_len] at hds
      subst hds
      have hsm : ∀ d ∈ single ys, d.length ≤ 4096 := fun d hd => by
        obtain ⟨v, _, rfl⟩ := List.mem_map.1 hd; simp
      have hsl : (single ys).length ≤ 4096 := by rw [single_len]; omega
      have PPW : Hid (PsAt wr (.slice a1 ps.length c1) ps) := HPP.out.below HB.out
      have CM1 := Lib.hid (right17_c _ _ (single ys) ps wr HD.out PPW.out)
      have CK2 := Lib.hid fixCheck_p0
      have hyb : ∀ v ∈ ys, -200 ≤ v ∧ v ≤ 200 := fun v hv => by have := HY.out v hv; omega
      by_cases hlt : ys.length < zs.length
      all_goals
        try have j2 : ¬ (ys.length : Int) < 5 := by omega
        try have j1 : (ys.length : Int) < zs.length := by omega
        try have j1 : ¬ (ys.length : Int) < zs.length := by omega
        cases hr : right17 (single ys) ps with
        | false =>
          rw [hr] at CM1
          clear hr hsm hsl
          go_wp2_with (first
            | (go_at_call 25; (with_reducible refine CM1.out.mono ?_); rintro e W4 ⟨rfl, bb⟩; have B4 := Lib.hid (HB.out.trans (bb.mono hle)); clear bb)
            | (go_at_call 26; (with_reducible refine (CK2.out _ _).mono ?_); rintro e W5 ⟨rfl, bb⟩; have B5 := Lib.hid (B4.out.trans (bb.mono B4.out.size)); clear bb))
          go_ret
          exact ⟨rfl, B5.out⟩
        | true =>
          rw [hr] at CM1
          have hin := right17_in hr
          have hLin : ∀ p ∈ ps, p.Lin ys.length := fun p hp => by have := (hin.fine p hp).toLin; rwa [single_len] at this
          obtain ⟨R, hR⟩ := fixOf_exists (ps := ps) (D := single ys) (fun p hp => (hin.fine p hp).good)
          obtain ⟨hRt, hRf⟩ := fixOf_single hLin hyb hR
          have hho : HoldIn ps (single ys) ys := ⟨hin.fine, by omega, hyb⟩
          have hP := hin.P
          have CH1 : Hid (∀ W, Below wr.heap.size wr W → Calls Tryz.prog 27 #[.slice a1 ps.length c1, .slice ya ys.length yc] W fun e w' => e = .returned (.bool (allHold ps ys)) ∧ Below W.heap.size W w') := fun W h => fixHolds_c _ _ ps _ ys W (HI.out.below h) (PPW.out.below h) hho (by omega)
          have CG1 : Hid (∀ W, Below wr.heap.size wr W → Calls Tryz.prog 28 #[.slice a1 ps.length c1, .slice ya ys.length yc] W fun e w' => e = .returned (.bool (allHold ps ys)) ∧ Below W.heap.size W w') := fun W h => refFixHolds_c _ _ ps _ ys W (HI.out.below h) (PPW.out.below h) hho (by omega)
          have CF1 : Hid (∀ W, Below wr.heap.size wr W → Calls Tryz.prog 22 #[.slice da ys.length dc, .slice a1 ps.length c1] W (RetO R W)) := fun W h => fix_r (HD.out.below h) (PPW.out.below h) hin hR
          have CS := Lib.hid (fun va W (ha : DsAt W va (single ys)) (h : Below wr.heap.size wr W) => same17_c va _ _ _ W ha (HD.out.below h) hsl hsm)
          have hsd : decide (single ys = single ys) = true := by simp
          rw [hsd] at CS
          clear hr hin hho hR hLin hyb
          cases hA : allHold ps ys with
          | false =>
            rw [hA] at CH1 CG1
            obtain rfl := hRf (fun h => by have := allHold_iff.2 h; rw [hA] at this; cases this)
            have CF2 : Hid (∀ W, Below wr.heap.size wr W → Calls Tryz.prog 22 #[.slice da ys.length dc, .slice a1 ps.length c1] W fun e w' => e = .returned (.tuple #[.slice none 0 0, .bool false]) ∧ Below W.heap.size W w') := (fun W h => (CF1.out W h).mono fun e w' hh => by
              obtain ⟨hb, ⟨_, _, _, h1, _⟩ | ⟨_, he⟩⟩ := hh
              · cases h1
              · exact ⟨he, hb⟩)
            clear CF1 hRt hRf hA CS
            go_wp2_with (first
              | (go_at_call 25; (with_reducible refine CM1.out.mono ?_); rintro e W4 ⟨rfl, bb⟩; have P4 := Lib.hid bb; clear bb)
              | (go_at_call 22; (with_reducible refine (CF2.out _ P4.out).mono ?_); rintro e W5 ⟨rfl, bb⟩; have P5 := Lib.hid (P4.out.trans (bb.mono P4.out.size)); clear bb)
              | (go_at_call 28; (with_reducible refine (CG1.out _ P5.out).mono ?_); rintro e W6 ⟨rfl, bb⟩; have P6 := Lib.hid (P5.out.trans (bb.mono P5.out.size)); clear bb)
              | (go_at_call 27; (with_reducible refine (CH1.out _ P6.out).mono ?_); rintro e W7 ⟨rfl, bb⟩; have P7 := Lib.hid (P6.out.trans (bb.mono P6.out.size)); clear bb))
            go_ret
            exact ⟨rfl, HB.out.trans (P7.out.mono hle)⟩
          | true =>
            rw [hA] at CH1 CG1
            obtain rfl := hRt (allHold_iff.1 hA)
            have CF2 : Hid (∀ W, Below wr.heap.size wr W → Calls Tryz.prog 22 #[.slice da ys.length dc, .slice a1 ps.length c1] W fun e w' => ∃ ao cap, e = .returned (.tuple #[.slice ao ys.length cap, .bool true]) ∧ DsAt w' (.slice ao ys.length cap) (single ys) ∧ Below W.heap.size W w') := (fun W h => (CF1.out W h).mono fun e w' hh => by
              obtain ⟨hb, ⟨ds', ao, cap, h1, he, h3⟩ | ⟨h1, _⟩⟩ := hh
              · have h1 := Option.some.inj h1
                subst h1
                rw [single_len] at he h3
                exact ⟨ao, cap, he, h3, hb⟩
              · cases h1)
            clear CF1 hRt hRf hA
            go_wp2_with (first
              | (go_at_call 25; (with_reducible refine CM1.out.mono ?_); rintro e W4 ⟨rfl, bb⟩; have P4 := Lib.hid bb; clear bb)
              | (go_at_call 22; (with_reducible refine (CF2.out _ P4.out).mono ?_); rintro e W5 ⟨a5, c5, rfl, d5, bb⟩; have D5 := Lib.hid d5; have P5 := Lib.hid (P4.out.trans (bb.mono P4.out.size)); clear bb d5)
              | (go_at_call 28; (with_reducible refine (CG1.out _ P5.out).mono ?_); rintro e W6 ⟨rfl, bb⟩; have P6 := Lib.hid (P5.out.trans (bb.mono P5.out.size)); have D6 := Lib.hid (D5.out.below bb); clear bb)
              | (go_at_call 27; (with_reducible refine (CH1.out _ P6.out).mono ?_); rintro e W7 ⟨rfl, bb⟩; have P7 := Lib.hid (P6.out.trans (bb.mono P6.out.size)); have D7 := Lib.hid (D6.out.below bb); clear bb)
              | (go_at_call 24; (with_reducible refine (CS.out _ _ D7.out P7.out).mono ?_); rintro e W8 ⟨rfl, bb⟩; have P8 := Lib.hid (P7.out.trans (bb.mono P7.out.size)); clear bb))
            go_ret
            exact ⟨rfl, HB.out.trans (P8.out.mono hle)⟩
end Go.Proofs.YtajooiainglpmaaGreat
