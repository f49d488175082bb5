/-
  coneyref16.Holds by its four kinds, walked.
-/
import Derived.Test.YtajooiainglpmaaGreatKonceb1
namespace Go.Proofs.YtajooiainglpmaaGreat
open Go.RowKit

set_option maxRecDepth 100000 in
set_option maxHeartbeats 3200000 in
theorem refHolds1_c (va vb vv vx : Value) (rel c x y z : Int) (coef vars vs xs : List Int) (ds : Ds) (w : World) (h0 : IsAt w va coef) (h1 : IsAt w vb vars) (h2 : IsAt w vv vs) (hx : IsAt w vx xs) (hf : (PL.mk 1 rel c x y z coef vars vs).Fine ds) (hxl : xs.length ≤ 4096) (hxb : ∀ v ∈ xs, -200 ≤ v ∧ v ≤ 200) :
    Calls Tryz.prog 57 #[propV 1 va vb rel c x y z vv, vx] w fun e w' => e = .returned (.bool (holdsP (PL.mk 1 rel c x y z coef vars vs) xs)) ∧ Below w.heap.size w w' := by
  obtain ⟨a0, c0, rfl, _⟩ := IsAt.shape h0
  obtain ⟨a1, c1, rfl, _⟩ := IsAt.shape h1
  obtain ⟨a2, c2, rfl, _⟩ := IsAt.shape h2
  obtain ⟨a3, c3, rfl, _⟩ := IsAt.shape hx
  have HZ : Hid (Below w.heap.size w (w.alloc (.cells #[.int .i64 1, .slice a0 coef.length c0, .slice a1 vars.length c1, .int .i64 rel, .int .i64 c, .int .i64 x, .int .i64 y, .int .i64 z, .slice a2 vs.length c2] 30))) := (Below.refl _ _).alloc (Nat.le_refl _) _
  have HX := Lib.hid (BoxL.mk' w #[.int .i64 1, .slice a0 coef.length c0, .slice a1 vars.length c1, .int .i64 rel, .int .i64 c, .int .i64 x, .int .i64 y, .int .i64 z, .slice a2 vs.length c2] 30)
  have hval : holdsP (PL.mk 1 rel c x y z coef vars vs) xs = holdsS rel c (sumV xs (coef.zip vars)) := by unfold holdsP; simp
  rw [hval]
  clear hval
  have CV : Hid (∀ n W, Below w.heap.size w W → Calls Tryz.prog 77 #[.slice a3 xs.length c3, .int .i64 n] W fun e w' => e = .returned (.int .i64 (valP xs n)) ∧ W = w') := fun n W h => value_any _ xs n W (hx.below h) hxl
  have CS : Hid (∀ W, Below w.heap.size w W → Calls Tryz.prog 76 #[.agg #[.slice a0 coef.length c0, .slice a1 vars.length c1, .int .i64 rel, .int .i64 c], .slice a3 xs.length c3] W fun e w' => e = .returned (.bool (holdsS rel c (sumV xs (coef.zip vars)))) ∧ Below W.heap.size W w') := fun W h =>
    stands_c _ _ _ rel c coef vars xs W (h0.below h) (h1.below h) (hx.below h) (hf.lin (.inl rfl)).1.len (hf.lin (.inl rfl)).1.le16 (hf.lin (.inl rfl)).1.coefs (hf.lin (.inl rfl)).2.1 (hf.lin (.inl rfl)).2.2.1 hxl hxb
  obtain ⟨V, hV⟩ : ∃ V, V = holdsS rel c (sumV xs (coef.zip vars)) := ⟨_, rfl⟩
  rw [← hV] at CS ⊢
  clear hV
  clear h0 h1 h2 hx hf hxb CV
  obtain ⟨l0, _⟩ := HX.out.get 0 rfl
  obtain ⟨l1, _⟩ := HX.out.get 1 rfl
  obtain ⟨l2, _⟩ := HX.out.get 2 rfl
  obtain ⟨l3, _⟩ := HX.out.get 3 rfl
  obtain ⟨l4, _⟩ := HX.out.get 4 rfl
  unfold propV
  go_enter Tryz.func57, Tryz.ntmps57
  go_wp2_with (go_at_call 76; (with_reducible refine (CS.out _ HZ.out).mono ?_); rintro e W1 ⟨rfl, bb⟩; have B1 := Lib.hid (HZ.out.trans (bb.mono HZ.out.size)); clear bb)
  go_ret
  exact ⟨rfl, B1.out⟩

set_option maxRecDepth 100000 in
set_option maxHeartbeats 3200000 in
theorem refHolds2_c (va vb vv vx : Value) (rel c x y z : Int) (coef vars vs xs : List Int) (ds : Ds) (w : World) (h0 : IsAt w va coef) (h1 : IsAt w vb vars) (h2 : IsAt w vv vs) (hx : IsAt w vx xs) (_hf : (PL.mk 2 rel c x y z coef vars vs).Fine ds) (hxl : xs.length ≤ 4096) (hxb : ∀ v ∈ xs, -200 ≤ v ∧ v ≤ 200) :
    Calls Tryz.prog 57 #[propV 2 va vb rel c x y z vv, vx] w fun e w' => e = .returned (.bool (holdsP (PL.mk 2 rel c x y z coef vars vs) xs)) ∧ Below w.heap.size w w' := by
  obtain ⟨a0, c0, rfl, _⟩ := IsAt.shape h0
  obtain ⟨a1, c1, rfl, _⟩ := IsAt.shape h1
  obtain ⟨a2, c2, rfl, _⟩ := IsAt.shape h2
  obtain ⟨a3, c3, rfl, _⟩ := IsAt.shape hx
  have HZ : Hid (Below w.heap.size w (w.alloc (.cells #[.int .i64 2, .slice a0 coef.length c0, .slice a1 vars.length c1, .int .i64 rel, .int .i64 c, .int .i64 x, .int .i64 y, .int .i64 z, .slice a2 vs.length c2] 30))) := (Below.refl _ _).alloc (Nat.le_refl _) _
  have HX := Lib.hid (BoxL.mk' w #[.int .i64 2, .slice a0 coef.length c0, .slice a1 vars.length c1, .int .i64 rel, .int .i64 c, .int .i64 x, .int .i64 y, .int .i64 z, .slice a2 vs.length c2] 30)
  have hval : holdsP (PL.mk 2 rel c x y z coef vars vs) xs = decide (valP xs x * valP xs y = valP xs z) := by unfold holdsP; simp
  rw [hval]
  clear hval
  have CV : Hid (∀ n W, Below w.heap.size w W → Calls Tryz.prog 77 #[.slice a3 xs.length c3, .int .i64 n] W fun e w' => e = .returned (.int .i64 (valP xs n)) ∧ W = w') := fun n W h => value_any _ xs n W (hx.below h) hxl
  have CA : Hid (∀ n m, Calls Tryz.prog 77 #[.slice a3 xs.length c3, .int .i64 n] ((w.alloc (.cells #[.int .i64 2, .slice a0 coef.length c0, .slice a1 vars.length c1, .int .i64 rel, .int .i64 c, .int .i64 x, .int .i64 y, .int .i64 z, .slice a2 vs.length c2] 30)).drewN m) fun e w' => e = .returned (.int .i64 (valP xs n)) ∧ (w.alloc (.cells #[.int .i64 2, .slice a0 coef.length c0, .slice a1 vars.length c1, .int .i64 rel, .int .i64 c, .int .i64 x, .int .i64 y, .int .i64 z, .slice a2 vs.length c2] 30)).drewN m = w') := fun n m => CV.out n _ (below_drewN HZ.out m)
  have CA1 := Lib.hid (CA.out x)
  have CA2 := Lib.hid (CA.out y)
  have CA3 := Lib.hid (CA.out z)
  have ha := valP_bnd hxb x
  have hb := valP_bnd hxb y
  have hm := mul_bnd2 _ _ ha hb
  clear h0 h1 h2 hx _hf hxb CV CA
  obtain ⟨l0, _⟩ := HX.out.get 0 rfl
  obtain ⟨l5, _⟩ := HX.out.get 5 rfl
  obtain ⟨l6, _⟩ := HX.out.get 6 rfl
  obtain ⟨l7, _⟩ := HX.out.get 7 rfl
  generalize valP xs x = p at *
  generalize valP xs y = q at *
  generalize valP xs z = r at *
  have w1 := wrap_small (x := p * q) (by omega)
  unfold propV
  go_enter Tryz.func57, Tryz.ntmps57
  go_wp2
  go_quiet ((first | (go_at_call 77; with_reducible exact quiet_here (CA1.out _)) | (go_at_call 77; with_reducible exact quiet_here (CA2.out _)) | (go_at_call 77; with_reducible exact quiet_here (CA3.out _))))
  go_wp2
  go_ret
  exact ⟨ret_bool rfl, below_drewN HZ.out _⟩

set_option maxRecDepth 100000 in
set_option maxHeartbeats 3200000 in
theorem refHolds3_c (va vb vv vx : Value) (rel c x y z : Int) (coef vars vs xs : List Int) (ds : Ds) (w : World) (h0 : IsAt w va coef) (h1 : IsAt w vb vars) (h2 : IsAt w vv vs) (hx : IsAt w vx xs) (hf : (PL.mk 3 rel c x y z coef vars vs).Fine ds) (hxl : xs.length ≤ 4096) (_hxb : ∀ v ∈ xs, -200 ≤ v ∧ v ≤ 200) :
    Calls Tryz.prog 57 #[propV 3 va vb rel c x y z vv, vx] w fun e w' => e = .returned (.bool (holdsP (PL.mk 3 rel c x y z coef vars vs) xs)) ∧ Below w.heap.size w w' := by
  obtain ⟨a0, c0, rfl, _⟩ := IsAt.shape h0
  obtain ⟨a1, c1, rfl, _⟩ := IsAt.shape h1
  obtain ⟨a2, c2, rfl, _⟩ := IsAt.shape h2
  obtain ⟨a3, c3, rfl, _⟩ := IsAt.shape hx
  have HZ : Hid (Below w.heap.size w (w.alloc (.cells #[.int .i64 3, .slice a0 coef.length c0, .slice a1 vars.length c1, .int .i64 rel, .int .i64 c, .int .i64 x, .int .i64 y, .int .i64 z, .slice a2 vs.length c2] 30))) := (Below.refl _ _).alloc (Nat.le_refl _) _
  have HX := Lib.hid (BoxL.mk' w #[.int .i64 3, .slice a0 coef.length c0, .slice a1 vars.length c1, .int .i64 rel, .int .i64 c, .int .i64 x, .int .i64 y, .int .i64 z, .slice a2 vs.length c2] 30)
  have hval : holdsP (PL.mk 3 rel c x y z coef vars vs) xs = unlike xs vs := by unfold holdsP; simp
  rw [hval]
  clear hval
  have CV : Hid (∀ n W, Below w.heap.size w W → Calls Tryz.prog 77 #[.slice a3 xs.length c3, .int .i64 n] W fun e w' => e = .returned (.int .i64 (valP xs n)) ∧ W = w') := fun n W h => value_any _ xs n W (hx.below h) hxl
  have hvl : vs.length ≤ 64 := hf.vsl rfl
  have H2 := Lib.hid h2
  have HUA := Lib.hid (unlikeTo_all xs vs)
  have HUS : Hid (∀ i, (hi : i < vs.length) → ∀ k, k ≤ i → ((List.range k).all fun j => decide (valP xs (vs.getD j 0) ≠ valP xs (vs.getD i 0))) = true → k = i → unlikeTo xs vs i = true → unlikeTo xs vs (i + 1) = true) := fun i hi k hk h e hu => by
    subst e
    unfold unlikeTo at *
    rw [List.range_succ, List.all_append, hu, List.all_cons, h]; rfl
  have HUF : Hid (∀ i j, i < vs.length → j < i → valP xs (vs.getD j 0) = valP xs (vs.getD i 0) → unlike xs vs = false) := fun i j hi hj he => by
    cases hu : unlike xs vs with
    | false => rfl
    | true => exact absurd he (unlike_iff.1 hu i j hi (by omega) (by omega))
  clear h0 h1 h2 hx hf _hxb
  obtain ⟨l0, _⟩ := HX.out.get 0 rfl
  unfold propV
  go_enter Tryz.func57, Tryz.ntmps57
  go_wp2
  go_loopw [5] (fun s wr => ∃ i : Nat, i ≤ vs.length ∧ s = .int .i64 i ∧ Hid (unlikeTo xs vs i = true) ∧ Hid (BoxL wr w.heap.size #[.int .i64 3, .slice a0 coef.length c0, .slice a1 vars.length c1, .int .i64 rel, .int .i64 c, .int .i64 x, .int .i64 y, .int .i64 z, .slice a2 vs.length c2].toList) ∧ Hid (Below w.heap.size w wr)) (fun s _ => vs.length - (intOf s).toNat)
  case atStart => exact ⟨0, by omega, rfl, rfl, HX, HZ⟩
  case round =>
    clear l0 HX HZ
    obtain ⟨i, hi, rfl, HU, HX, HZ⟩ := hrel
    obtain ⟨l8, _⟩ := HX.out.get 8 rfl
    by_cases hlt : i < vs.length
    · have j1 : (i : Int) < vs.length := by omega
      obtain ⟨wo, hwo⟩ : ∃ wo : World, wo = wr := ⟨_, rfl⟩
      subst hwo
      obtain ⟨b2, o2, rfl, q2, r2, y2⟩ := H2.out.get i hlt
      have Y2 := Lib.hid y2
      clear y2
      go_wp2
      go_loopw [6] (fun s wi => ∃ k : Nat, k ≤ i ∧ s = .int .i64 k ∧ Hid (((List.range k).all fun j => decide (valP xs (vs.getD j 0) ≠ valP xs (vs.getD i 0))) = true) ∧ Hid (BoxL wi w.heap.size #[.int .i64 3, .slice a0 coef.length c0, .slice a1 vars.length c1, .int .i64 rel, .int .i64 c, .int .i64 x, .int .i64 y, .int .i64 z, .slice (some ⟨b2, o2, none⟩) vs.length c2].toList) ∧ Hid (Below w.heap.size w wi)) (fun s _ => i - (intOf s).toNat)
      case atStart => exact ⟨0, by omega, rfl, rfl, HX, HZ⟩
      case round =>
        clear l8 HX HZ
        obtain ⟨k, hk, rfl, HK, HX, HZ⟩ := hrel
        obtain ⟨l8, _⟩ := HX.out.get 8 rfl
        by_cases hlk : k < i
        · have hkl : k < vs.length := by omega
          obtain ⟨b3, o3, he3, _, r3, y3⟩ := H2.out.get k hkl
          simp only [Option.some.injEq, Addr.mk.injEq, and_true] at he3
          obtain ⟨rfl, rfl⟩ := he3
          have x2 := (HZ.out.cell (p := ⟨b2, o2 + i, none⟩) r2).trans Y2.out
          have x3 := (HZ.out.cell (p := ⟨b2, o2 + k, none⟩) r3).trans y3
          have e2 : vs.getD i 0 = vs[i] := by simp [List.getD_eq_getElem?_getD, List.getElem?_eq_getElem hlt]
          have e3 : vs.getD k 0 = vs[k] := by simp [List.getD_eq_getElem?_getD, List.getElem?_eq_getElem hkl]
          have CA2 : Hid (∀ m, Calls Tryz.prog 77 #[.slice a3 xs.length c3, .int .i64 vs[i]] (wr.drewN m) fun e w' => e = .returned (.int .i64 (valP xs vs[i])) ∧ wr.drewN m = w') := fun m => CV.out _ _ (below_drewN HZ.out m)
          have CA3 : Hid (∀ m, Calls Tryz.prog 77 #[.slice a3 xs.length c3, .int .i64 vs[k]] (wr.drewN m) fun e w' => e = .returned (.int .i64 (valP xs vs[k])) ∧ wr.drewN m = w') := fun m => CV.out _ _ (below_drewN HZ.out m)
          have UF : Hid (valP xs vs[k] = valP xs vs[i] → unlike xs vs = false) := fun h => HUF.out i k hlt hlk (by rw [e2, e3]; exact h)
          have KS : Hid (¬ valP xs vs[k] = valP xs vs[i] → ((List.range (k + 1)).all fun j => decide (valP xs (vs.getD j 0) ≠ valP xs (vs.getD i 0))) = true) := fun h => by
            rw [List.range_succ, List.all_append, HK.out, List.all_cons, e2, e3]; simp [h]
          have j2 : (k : Int) < vs.length := by omega
          have j3 : (k : Int) < i := by omega
          clear e2 e3 y3
          generalize vs[i] = v2 at *
          generalize vs[k] = v3 at *
          generalize valP xs v2 = z2 at *
          generalize valP xs v3 = z3 at *
          by_cases hz : z3 = z2
          · have hzb : (z3 == z2) = true := by simpa using hz
            have UFF := Lib.hid (UF.out hz)
            clear hz
            go_wp2
            go_quiet ((first | (go_at_call 77; with_reducible exact quiet_here (CA2.out _)) | (go_at_call 77; with_reducible exact quiet_here (CA3.out _))))
            go_wp2
            go_ret
            exact ⟨ret_bool UFF.out.symm, below_drewN HZ.out _⟩
          · have hzb : (z3 == z2) = false := beqf hz
            have KSS := Lib.hid (KS.out hz)
            go_wp2
            go_quiet ((first | (go_at_call 77; with_reducible exact quiet_here (CA2.out _)) | (go_at_call 77; with_reducible exact quiet_here (CA3.out _))))
            go_wp2
            exact ⟨⟨k + 1, by omega, by go_num, KSS, Lib.hid (HX.out.below (below_drewN (Below.refl _ _) _) (HX.out.lt (by simp))), Lib.hid (below_drewN HZ.out _)⟩, by simp [intOf]; omega⟩
        · obtain rfl : k = i := by omega
          have HU2 := Lib.hid (HUS.out k hlt k (Nat.le_refl _) HK.out rfl HU.out)
          go_wp2
          exact ⟨⟨k + 1, by omega, by go_num, HU2, HX, HZ⟩, by simp [intOf]; omega⟩
    · obtain rfl : i = vs.length := by omega
      rw [HUA.out] at HU
      go_wp2
      go_ret
      exact ⟨ret_bool HU.out.symm, HZ.out⟩

set_option maxRecDepth 100000 in
set_option maxHeartbeats 3200000 in
theorem refHolds4_c (va vb vv vx : Value) (rel c x y z : Int) (coef vars vs xs : List Int) (ds : Ds) (w : World) (h0 : IsAt w va coef) (h1 : IsAt w vb vars) (h2 : IsAt w vv vs) (hx : IsAt w vx xs) (hf : (PL.mk 4 rel c x y z coef vars vs).Fine ds) (hxl : xs.length ≤ 4096) (hxb : ∀ v ∈ xs, -200 ≤ v ∧ v ≤ 200) :
    Calls Tryz.prog 57 #[propV 4 va vb rel c x y z vv, vx] w fun e w' => e = .returned (.bool (holdsP (PL.mk 4 rel c x y z coef vars vs) xs)) ∧ Below w.heap.size w w' := by
  obtain ⟨a0, c0, rfl, _⟩ := IsAt.shape h0
  obtain ⟨a1, c1, rfl, _⟩ := IsAt.shape h1
  obtain ⟨a2, c2, rfl, _⟩ := IsAt.shape h2
  obtain ⟨a3, c3, rfl, _⟩ := IsAt.shape hx
  have HZ : Hid (Below w.heap.size w (w.alloc (.cells #[.int .i64 4, .slice a0 coef.length c0, .slice a1 vars.length c1, .int .i64 rel, .int .i64 c, .int .i64 x, .int .i64 y, .int .i64 z, .slice a2 vs.length c2] 30))) := (Below.refl _ _).alloc (Nat.le_refl _) _
  have HX := Lib.hid (BoxL.mk' w #[.int .i64 4, .slice a0 coef.length c0, .slice a1 vars.length c1, .int .i64 rel, .int .i64 c, .int .i64 x, .int .i64 y, .int .i64 z, .slice a2 vs.length c2] 30)
  have hval : holdsP (PL.mk 4 rel c x y z coef vars vs) xs = ((decide (valP xs x = 1) && holdsS rel c (sumV xs (coef.zip vars))) || (decide (valP xs x = 0) && !holdsS rel c (sumV xs (coef.zip vars)))) := by unfold holdsP; simp
  rw [hval]
  clear hval
  have CV : Hid (∀ n W, Below w.heap.size w W → Calls Tryz.prog 77 #[.slice a3 xs.length c3, .int .i64 n] W fun e w' => e = .returned (.int .i64 (valP xs n)) ∧ W = w') := fun n W h => value_any _ xs n W (hx.below h) hxl
  have CS : Hid (∀ W, Below w.heap.size w W → Calls Tryz.prog 76 #[.agg #[.slice a0 coef.length c0, .slice a1 vars.length c1, .int .i64 rel, .int .i64 c], .slice a3 xs.length c3] W fun e w' => e = .returned (.bool (holdsS rel c (sumV xs (coef.zip vars)))) ∧ Below W.heap.size W w') := fun W h =>
    stands_c _ _ _ rel c coef vars xs W (h0.below h) (h1.below h) (hx.below h) (hf.lin (.inr rfl)).1.len (hf.lin (.inr rfl)).1.le16 (hf.lin (.inr rfl)).1.coefs (hf.lin (.inr rfl)).2.1 (hf.lin (.inr rfl)).2.2.1 hxl hxb
  obtain ⟨V, hV⟩ : ∃ V, V = holdsS rel c (sumV xs (coef.zip vars)) := ⟨_, rfl⟩
  rw [← hV] at CS ⊢
  clear hV
  have CV1 := Lib.hid (CV.out x _ HZ.out)
  obtain ⟨n, hn⟩ : ∃ n, n = valP xs x := ⟨_, rfl⟩
  rw [← hn] at CV1 ⊢
  clear hn h0 h1 h2 hx hf hxb CV
  obtain ⟨l0, _⟩ := HX.out.get 0 rfl
  obtain ⟨l1, _⟩ := HX.out.get 1 rfl
  obtain ⟨l2, _⟩ := HX.out.get 2 rfl
  obtain ⟨l3, _⟩ := HX.out.get 3 rfl
  obtain ⟨l4, _⟩ := HX.out.get 4 rfl
  obtain ⟨l5, _⟩ := HX.out.get 5 rfl
  unfold propV
  by_cases e1 : n = 1
  · subst e1
    cases V <;>
    · go_enter Tryz.func57, Tryz.ntmps57
      go_wp2_with (first
        | (go_at_call 77; (with_reducible refine CV1.out.mono ?_); rintro e w' ⟨rfl, rfl⟩)
        | (go_at_call 76; (with_reducible refine (CS.out _ HZ.out).mono ?_); rintro e W1 ⟨rfl, bb⟩; have B1 := Lib.hid (HZ.out.trans (bb.mono HZ.out.size)); clear bb))
      go_ret
      exact ⟨ret_bool (by simp), B1.out⟩
  by_cases e0 : n = 0
  · subst e0
    cases V <;>
    · go_enter Tryz.func57, Tryz.ntmps57
      go_wp2_with (first
        | (go_at_call 77; (with_reducible refine CV1.out.mono ?_); rintro e w' ⟨rfl, rfl⟩)
        | (go_at_call 76; (with_reducible refine (CS.out _ HZ.out).mono ?_); rintro e W1 ⟨rfl, bb⟩; have B1 := Lib.hid (HZ.out.trans (bb.mono HZ.out.size)); clear bb))
      go_ret
      exact ⟨ret_bool (by simp), B1.out⟩
  · have g1 : (n == 1) = false := beqf e1
    have g0 : (n == 0) = false := beqf e0
    go_enter Tryz.func57, Tryz.ntmps57
    go_wp2_with (first
      | (go_at_call 77; (with_reducible refine CV1.out.mono ?_); rintro e w' ⟨rfl, rfl⟩))
    go_ret
    exact ⟨ret_bool (by simp [e1, e0]), HZ.out⟩

theorem refHolds_c (kind : Int) (va vb vv vx : Value) (rel c x y z : Int) (coef vars vs xs : List Int) (ds : Ds) (w : World) (h0 : IsAt w va coef) (h1 : IsAt w vb vars) (h2 : IsAt w vv vs) (hx : IsAt w vx xs) (hf : (PL.mk kind rel c x y z coef vars vs).Fine ds) (hxl : xs.length ≤ 4096) (hxb : ∀ v ∈ xs, -200 ≤ v ∧ v ≤ 200) :
    Calls Tryz.prog 57 #[propV kind va vb rel c x y z vv, vx] w fun e w' => e = .returned (.bool (holdsP (PL.mk kind rel c x y z coef vars vs) xs)) ∧ Below w.heap.size w w' := by
  rcases hf.kind with h | h | h | h
  · dsimp only at h; subst h; exact refHolds1_c va vb vv vx rel c x y z coef vars vs xs ds w h0 h1 h2 hx hf hxl hxb
  · dsimp only at h; subst h; exact refHolds2_c va vb vv vx rel c x y z coef vars vs xs ds w h0 h1 h2 hx hf hxl hxb
  · dsimp only at h; subst h; exact refHolds3_c va vb vv vx rel c x y z coef vars vs xs ds w h0 h1 h2 hx hf hxl hxb
  · dsimp only at h; subst h; exact refHolds4_c va vb vv vx rel c x y z coef vars vs xs ds w h0 h1 h2 hx hf hxl hxb
end Go.Proofs.YtajooiainglpmaaGreat
