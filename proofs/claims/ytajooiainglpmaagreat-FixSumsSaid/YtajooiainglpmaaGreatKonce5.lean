/-
  slices.Min, slices.Max of integers; the product's narrow, walked.
  lin.Not, walked.
-/
import Derived.Test.YtajooiainglpmaaGreatKonce4
import Derived.Test.YtajooiainglpmaaGreatKlin6
namespace Go.Proofs.YtajooiainglpmaaGreat
open Go.RowKit

theorem Stay.alloc {W W' : World} {g : Nat} (h : Stay W W' g) (o : Obj) : Stay W (W'.alloc o) g :=
  h.trans (Stay.of_below ((Below.refl _ _).alloc (Nat.le_refl _) o))
theorem below_of {B : Nat} {w0 W W' : World} (h1 : Below B w0 W) (h2 : Below B w0 W') (hs : W.heap.size ≤ W'.heap.size) : Below B W W' :=
  ⟨h2.os.trans h1.os.symm, h2.tape.trans h1.tape.symm, h2.output.trans h1.output.symm, hs, fun k hk => (h2.block k hk).trans (h1.block k hk).symm⟩
theorem Stay.drew {W W' : World} {g : Nat} (h : Stay W W' g) : Stay W W'.drew g := h

set_option maxRecDepth 100000 in
theorem minI_c (v : Value) (z : Int) (zs : List Int) (w : World) (h : IsAt w v (z :: zs)) (hl : zs.length ≤ 4096) :
    Calls Tryz.prog 165 #[v] w fun e w' => e = .returned (.int .i64 (zs.foldl min z)) ∧ w = w' := by
  obtain ⟨ao, cap, rfl, _⟩ := IsAt.shape h
  have H := Lib.hid h
  obtain ⟨b, off, rfl, hc, hb, x0⟩ := h.get 0 (by simp)
  simp only [List.getElem_cons_zero, Nat.add_zero] at x0
  have hlen : (z :: zs).length = zs.length + 1 := by simp
  clear h
  rw [hlen] at *
  go_enter Tryz.func165, Tryz.ntmps165
  go_wp2
  go_loop [3, 4] (fun m i => ∃ k : Nat, k ≤ zs.length ∧ i = .int .i64 ((k : Int) + 1) ∧ m = .int .i64 ((zs.take k).foldl min z)) (fun _ i => zs.length + 1 - (intOf i).toNat)
  case atStart => exact ⟨0, by omega, rfl, rfl⟩
  case round =>
    obtain ⟨k, hk, rfl, rfl⟩ := hrel
    by_cases hlt : k < zs.length
    · obtain ⟨b1, o1, he, _, _, x1⟩ := IsAt.get (n := (z :: zs).length) H.out (k + 1) (by simp; omega)
      simp only [Option.some.injEq, Addr.mk.injEq, and_true] at he
      obtain ⟨rfl, rfl⟩ := he
      simp only [List.getElem_cons_succ] at x1
      have S : Hid ((zs.take (k + 1)).foldl min z = min ((zs.take k).foldl min z) zs[k]) := by show _ = _; rw [List.take_succ_eq_append_getElem hlt, List.foldl_append]; rfl
      have j1 : (k : Int) + 1 < zs.length + 1 := by omega
      have e1 : ((k : Int) + 1).toNat = k + 1 := by omega
      generalize zs[k] = y at *
      generalize (zs.take k).foldl min z = m at *
      go_wp2
      go_round
      case rel => exact ⟨k + 1, by omega, by go_num, by rw [S.out]⟩
      case measure => simp [intOf]; omega
    · obtain rfl : k = zs.length := by omega
      rw [List.take_length]
      obtain ⟨m, hm⟩ : ∃ m, m = zs.foldl min z := ⟨_, rfl⟩
      rw [← hm]
      have HM := Lib.hid hm
      clear hm
      go_wp2
      go_ret
      exact ⟨ret_int HM.out, rfl⟩
set_option maxRecDepth 100000 in
theorem maxI_c (v : Value) (z : Int) (zs : List Int) (w : World) (h : IsAt w v (z :: zs)) (hl : zs.length ≤ 4096) :
    Calls Tryz.prog 166 #[v] w fun e w' => e = .returned (.int .i64 (zs.foldl max z)) ∧ w = w' := by
  obtain ⟨ao, cap, rfl, _⟩ := IsAt.shape h
  have H := Lib.hid h
  obtain ⟨b, off, rfl, hc, hb, x0⟩ := h.get 0 (by simp)
  simp only [List.getElem_cons_zero, Nat.add_zero] at x0
  have hlen : (z :: zs).length = zs.length + 1 := by simp
  clear h
  rw [hlen] at *
  go_enter Tryz.func166, Tryz.ntmps166
  go_wp2
  go_loop [3, 4] (fun m i => ∃ k : Nat, k ≤ zs.length ∧ i = .int .i64 ((k : Int) + 1) ∧ m = .int .i64 ((zs.take k).foldl max z)) (fun _ i => zs.length + 1 - (intOf i).toNat)
  case atStart => exact ⟨0, by omega, rfl, rfl⟩
  case round =>
    obtain ⟨k, hk, rfl, rfl⟩ := hrel
    by_cases hlt : k < zs.length
    · obtain ⟨b1, o1, he, _, _, x1⟩ := IsAt.get (n := (z :: zs).length) H.out (k + 1) (by simp; omega)
      simp only [Option.some.injEq, Addr.mk.injEq, and_true] at he
      obtain ⟨rfl, rfl⟩ := he
      simp only [List.getElem_cons_succ] at x1
      have S : Hid ((zs.take (k + 1)).foldl max z = max ((zs.take k).foldl max z) zs[k]) := by show _ = _; rw [List.take_succ_eq_append_getElem hlt, List.foldl_append]; rfl
      have j1 : (k : Int) + 1 < zs.length + 1 := by omega
      have e1 : ((k : Int) + 1).toNat = k + 1 := by omega
      generalize zs[k] = y at *
      generalize (zs.take k).foldl max z = m at *
      go_wp2
      go_round
      case rel => exact ⟨k + 1, by omega, by go_num, by rw [S.out]⟩
      case measure => simp [intOf]; omega
    · obtain rfl : k = zs.length := by omega
      rw [List.take_length]
      obtain ⟨m, hm⟩ : ∃ m, m = zs.foldl max z := ⟨_, rfl⟩
      rw [← hm]
      have HM := Lib.hid hm
      clear hm
      go_wp2
      go_ret
      exact ⟨ret_int HM.out, rfl⟩

theorem rgAt_new (w : World) (a b : Int) (T : TypeId) : RgAt (w.alloc (.cells #[.int .i64 a, .int .i64 b] T)) (.slice (some ⟨w.heap.size, 0, none⟩) 1 1) [(a, b)] := rgAt_lit2 w (a, b) T
theorem mul_bnd2 (x y : Int) (hx : -200 ≤ x ∧ x ≤ 200) (hy : -200 ≤ y ∧ y ≤ 200) : -40000 ≤ x * y ∧ x * y ≤ 40000 := by have := mul_bnd y x 200 hy hx; omega
theorem IsAt.stay {W W' : World} {b o n c g : Nat} {zs : List Int} (h : IsAt W (.slice (some ⟨b, o, none⟩) n c) zs) (hs : Stay W W' g) (hne : b ≠ g) : IsAt W' (.slice (some ⟨b, o, none⟩) n c) zs := by
  obtain ⟨h1, ao, cap, he, h2, h3, h5, h4⟩ := h
  refine ⟨h1, ao, cap, he, h2, h3, h5, fun hp => ?_⟩
  obtain ⟨b', off, rfl, hlt, hc⟩ := h4 hp
  simp only [Value.slice.injEq, Option.some.injEq, Addr.mk.injEq] at he
  obtain ⟨⟨rfl, rfl, _⟩, _⟩ := he
  exact ⟨_, _, rfl, Nat.lt_of_lt_of_le hlt hs.1, fun j hj => (hs.cell (p := ⟨b, o + j, none⟩) hlt hne).trans (hc j hj)⟩

set_option maxRecDepth 100000 in
set_option maxHeartbeats 3200000 in
theorem narProd_c (vds : Value) (nx ny nz : Nat) (was out : Ds) (w0 W : World) (B bo g : Nat) (hB : w0.heap.size = B) (hW : Below B w0 W) (hd : DsAt w0 vds was) (hx : nx < was.length) (hy : ny < was.length) (hz : nz < was.length)
    (hdl : was.length ≤ 4096) (hN : AllN was) (ho : OutAt W B bo g out) (hol : out.length = was.length) :
    Calls Tryz.prog 162 #[.agg #[.int .i64 nx, .int .i64 ny, .int .i64 nz], vds, .func (.func 35) #[] #[.pointer (some ⟨bo, 0, none⟩)]] W (NarR (some (prodKs nx ny nz was)) B bo g out W) := by
  subst hB
  obtain ⟨a2, c2, rfl, _⟩ := hd.shape
  have hWl := hW.size
  have HZ : Hid (∀ o, Below W.heap.size W (W.alloc o)) := fun o => (Below.refl _ _).alloc (Nat.le_refl _) o
  have HO := Lib.hid ho
  have HW := Lib.hid hW
  have HG : Hid (g < W.heap.size) := by
    obtain ⟨us, _, ow, _⟩ := HO.out.own
    exact (ow.lt g rfl).2
  have hneb : W.heap.size ≠ g := by have := HG.out; omega
  have HKS : Hid (prodKs nx ny nz was = [((nx : Int), factorsL was[nx] (loD was[ny]) (hiD was[ny]) (loD was[nz]) (hiD was[nz])), ((ny : Int), factorsL was[ny] (loD was[nx]) (hiD was[nx]) (loD was[nz]) (hiD was[nz])), ((nz : Int), prodR was[nx] was[ny])]) := by
    show _ = _
    unfold prodKs
    rw [domOf_nat hx, domOf_nat hy, domOf_nat hz]
  obtain ⟨bx, ox, ax, cx, he, qx, lx, _, x2, x3⟩ := hd.get nx hx
  obtain ⟨by', oy, ay, cy, he2, qy, ly, _, y2, y3⟩ := hd.get ny hy
  obtain ⟨bz, oz, az, cz, he3, qz, lz, _, z2, z3⟩ := hd.get nz hz
  rw [he] at he2 he3
  simp only [Option.some.injEq, Addr.mk.injEq, and_true] at he2 he3
  obtain ⟨rfl, rfl⟩ := he2
  obtain ⟨rfl, rfl⟩ := he3
  subst he
  have nX := allN_at hN hx
  have nY := allN_at hN hy
  have nZ := allN_at hN hz
  have bX := ends_bnd was[nx]
  have bY := ends_bnd was[ny]
  have bZ := ends_bnd was[nz]
  have tX := normal_len nX
  have tY := normal_len nY
  have tZ := normal_len nZ
  have CX : Hid (∀ W1, Below w0.heap.size w0 W1 → Calls Tryz.prog 136 #[.slice ax was[nx].length cx] W1 fun e w' => e = .returned (.tuple #[.int .i64 (loD was[nx]), .int .i64 (hiD was[nx]), .bool (endsL (norm was[nx])).2.2]) ∧ Below W1.heap.size W1 w') := fun W1 h => ends_c _ _ W1 (x3.below h) (by omega)
  have CY : Hid (∀ W1, Below w0.heap.size w0 W1 → Calls Tryz.prog 136 #[.slice ay was[ny].length cy] W1 fun e w' => e = .returned (.tuple #[.int .i64 (loD was[ny]), .int .i64 (hiD was[ny]), .bool (endsL (norm was[ny])).2.2]) ∧ Below W1.heap.size W1 w') := fun W1 h => ends_c _ _ W1 (y3.below h) (by omega)
  have CZ : Hid (∀ W1, Below w0.heap.size w0 W1 → Calls Tryz.prog 136 #[.slice az was[nz].length cz] W1 fun e w' => e = .returned (.tuple #[.int .i64 (loD was[nz]), .int .i64 (hiD was[nz]), .bool (endsL (norm was[nz])).2.2]) ∧ Below W1.heap.size W1 w') := fun W1 h => ends_c _ _ W1 (z3.below h) (by omega)
  have CF1 : Hid (∀ W1, Below w0.heap.size w0 W1 → Calls Tryz.prog 164 #[.slice ax was[nx].length cx, .int .i64 (loD was[ny]), .int .i64 (hiD was[ny]), .int .i64 (loD was[nz]), .int .i64 (hiD was[nz])] W1 (RetR (factorsL was[nx] (loD was[ny]) (hiD was[ny]) (loD was[nz]) (hiD was[nz])) W1)) := fun W1 h =>
    factors_c _ was[nx] _ _ _ _ W1 (x3.below h) nX ⟨bY.1, bY.2.1⟩ bY.2.2 ⟨bZ.1, bZ.2.1⟩ bZ.2.2
  have CF2 : Hid (∀ W1, Below w0.heap.size w0 W1 → Calls Tryz.prog 164 #[.slice ay was[ny].length cy, .int .i64 (loD was[nx]), .int .i64 (hiD was[nx]), .int .i64 (loD was[nz]), .int .i64 (hiD was[nz])] W1 (RetR (factorsL was[ny] (loD was[nx]) (hiD was[nx]) (loD was[nz]) (hiD was[nz])) W1)) := fun W1 h =>
    factors_c _ was[ny] _ _ _ _ W1 (y3.below h) nY ⟨bX.1, bX.2.1⟩ bX.2.2 ⟨bZ.1, bZ.2.1⟩ bZ.2.2
  have HC : Hid (∀ W1, Below w0.heap.size w0 W1 → W1.cell? ⟨bx, ox + nx, none⟩ = some (.slice ax was[nx].length cx) ∧ W1.cell? ⟨bx, ox + ny, none⟩ = some (.slice ay was[ny].length cy) ∧ W1.cell? ⟨bx, ox + nz, none⟩ = some (.slice az was[nz].length cz)) := fun W1 h =>
    ⟨(h.cell (p := ⟨bx, ox + nx, none⟩) lx).trans x2, (h.cell (p := ⟨bx, ox + ny, none⟩) lx).trans y2, (h.cell (p := ⟨bx, ox + nz, none⟩) lx).trans z2⟩
  have HX := Lib.hid (BoxL.mk' W #[.int .i64 nx, .int .i64 ny, .int .i64 nz] 95)
  have hf1 : (factorsL was[nx] (loD was[ny]) (hiD was[ny]) (loD was[nz]) (hiD was[nz])).length ≤ 201 := canon_len _
  have hf2 : (factorsL was[ny] (loD was[nx]) (hiD was[nx]) (loD was[nz]) (hiD was[nz])).length ≤ 201 := canon_len _
  have HPR : Hid (prodR was[nx] was[ny] = [(min4 (loD was[nx] * loD was[ny]) (loD was[nx] * hiD was[ny]) (hiD was[nx] * loD was[ny]) (hiD was[nx] * hiD was[ny]), max4 (loD was[nx] * loD was[ny]) (loD was[nx] * hiD was[ny]) (hiD was[nx] * loD was[ny]) (hiD was[nx] * hiD was[ny]))]) := rfl
  rw [HKS.out]
  change (-200 ≤ loD was[nx] ∧ loD was[nx] ≤ 200 ∧ -200 ≤ hiD was[nx] ∧ hiD was[nx] ≤ 200) at bX
  change (-200 ≤ loD was[ny] ∧ loD was[ny] ≤ 200 ∧ -200 ≤ hiD was[ny] ∧ hiD was[ny] ≤ 200) at bY
  change (-200 ≤ loD was[nz] ∧ loD was[nz] ≤ 200 ∧ -200 ≤ hiD was[nz] ∧ hiD was[nz] ≤ 200) at bZ
  rw [HPR.out]
  generalize factorsL was[nx] (loD was[ny]) (hiD was[ny]) (loD was[nz]) (hiD was[nz]) = F1 at *
  generalize factorsL was[ny] (loD was[nx]) (hiD was[nx]) (loD was[nz]) (hiD was[nz]) = F2 at *
  clear HKS HPR x2 x3 y2 y3 z2 z3 nX nY nZ tX tY tZ ho hW hd hN
  generalize loD was[nx] = x1 at *
  generalize hiD was[nx] = x2 at *
  generalize loD was[ny] = y1 at *
  generalize hiD was[ny] = y2 at *
  generalize loD was[nz] = z1 at *
  generalize hiD was[nz] = z2 at *
  generalize (endsL (norm was[nx])).2.2 = ex at *
  generalize (endsL (norm was[ny])).2.2 = ey at *
  generalize (endsL (norm was[nz])).2.2 = ez at *
  generalize was[nx].length = xl at *
  generalize was[ny].length = yl at *
  generalize was[nz].length = zl at *
  have m1 := mul_bnd2 x1 y1 (by omega) (by omega)
  have m2 := mul_bnd2 x1 y2 (by omega) (by omega)
  have m3 := mul_bnd2 x2 y1 (by omega) (by omega)
  have m4 := mul_bnd2 x2 y2 (by omega) (by omega)
  have E0 := Lib.hid hol
  clear hol
  have BZ : Hid (Below w0.heap.size w0 (W.alloc (.cells #[.int .i64 nx, .int .i64 ny, .int .i64 nz] 95))) := HW.out.trans ((HZ.out _).mono hWl)
  have jx : (nx : Int) < was.length := by omega
  have jy : (ny : Int) < was.length := by omega
  have jz : (nz : Int) < was.length := by omega
  have HS0 := Lib.hid (Stay.refl (W.alloc (.cells #[.int .i64 nx, .int .i64 ny, .int .i64 nz] 95)) g)
  have HO0 := Lib.hid (HO.out.below (HZ.out (.cells #[.int .i64 nx, .int .i64 ny, .int .i64 nz] 95)))
  -- the box, and the sets' slices, in whatever world comes
  have HQ : Hid (∀ W1, Below w0.heap.size w0 W1 → Stay (W.alloc (.cells #[.int .i64 nx, .int .i64 ny, .int .i64 nz] 95)) W1 g → W1.cell? ⟨W.heap.size, 0, none⟩ = some (.int .i64 nx) ∧ W1.cell? ⟨W.heap.size, 1, none⟩ = some (.int .i64 ny) ∧ W1.cell? ⟨W.heap.size, 2, none⟩ = some (.int .i64 nz) ∧ W1.cell? ⟨bx, ox + nx, none⟩ = some (.slice ax xl cx) ∧ W1.cell? ⟨bx, ox + ny, none⟩ = some (.slice ay yl cy) ∧ W1.cell? ⟨bx, ox + nz, none⟩ = some (.slice az zl cz)) := fun W1 hb hs => by
    have hh := HX.out.stay (by simp) hs hneb
    obtain ⟨u1, u2, u3⟩ := HC.out W1 hb
    exact ⟨(hh.get 0 rfl).1, (hh.get 1 rfl).1, (hh.get 2 rfl).1, u1, u2, u3⟩
  go_enter Tryz.func162, Tryz.ntmps162
  obtain ⟨v0, v1, v2, v3, v4, v5⟩ := HQ.out _ BZ.out HS0.out
  go_wp2_with (first
    | (go_at_call 136; (with_reducible refine (CX.out _ BZ.out).mono ?_); rintro e W1 ⟨rfl, b1⟩; have BW1 := Lib.hid (BZ.out.trans (b1.mono BZ.out.size)); have SW1 := Lib.hid (HS0.out.trans (Stay.of_below b1)); obtain ⟨v10, v11, v12, v13, v14, v15⟩ := HQ.out _ BW1.out SW1.out; have O1 := Lib.hid (HO0.out.below b1); clear b1)
    | (go_at_call 136; (with_reducible refine (CY.out _ BW1.out).mono ?_); rintro e W2 ⟨rfl, b1⟩; have BW2 := Lib.hid (BW1.out.trans (b1.mono BW1.out.size)); have SW2 := Lib.hid (SW1.out.trans (Stay.of_below b1)); obtain ⟨v20, v21, v22, v23, v24, v25⟩ := HQ.out _ BW2.out SW2.out; have O2 := Lib.hid (O1.out.below b1); clear b1)
    | (go_at_call 136; (with_reducible refine (CZ.out _ BW2.out).mono ?_); rintro e W3 ⟨rfl, b1⟩; have BW3 := Lib.hid (BW2.out.trans (b1.mono BW2.out.size)); have SW3 := Lib.hid (SW2.out.trans (Stay.of_below b1)); obtain ⟨v30, v31, v32, v33, v34, v35⟩ := HQ.out _ BW3.out SW3.out; have O3 := Lib.hid (O2.out.below b1); clear b1))
  have P4 : Hid (∀ W1, Below w0.heap.size w0 W1 → Stay (W.alloc (.cells #[.int .i64 nx, .int .i64 ny, .int .i64 nz] 95)) W1 g → W1.cell? ⟨W.heap.size, 0, none⟩ = some (.int .i64 nx) ∧ W1.cell? ⟨bx, ox + nx, none⟩ = some (.slice ax xl cx)) := fun W1 hb hs => ⟨(HQ.out W1 hb hs).1, (HQ.out W1 hb hs).2.2.2.1⟩
  have P5 : Hid (∀ W1, Below w0.heap.size w0 W1 → Stay (W.alloc (.cells #[.int .i64 nx, .int .i64 ny, .int .i64 nz] 95)) W1 g → W1.cell? ⟨W.heap.size, 1, none⟩ = some (.int .i64 ny) ∧ W1.cell? ⟨bx, ox + ny, none⟩ = some (.slice ay yl cy)) := fun W1 hb hs => ⟨(HQ.out W1 hb hs).2.1, (HQ.out W1 hb hs).2.2.2.2.1⟩
  have P7 : Hid (∀ W1, Below w0.heap.size w0 W1 → Stay (W.alloc (.cells #[.int .i64 nx, .int .i64 ny, .int .i64 nz] 95)) W1 g → W1.cell? ⟨W.heap.size, 2, none⟩ = some (.int .i64 nz)) := fun W1 hb hs => (HQ.out W1 hb hs).2.2.1
  clear v0 v1 v2 v3 v4 v5 v10 v11 v12 v13 v14 v15 v20 v21 v22 v23 v24 v25
  go_region_held3 (fun W' => W'.cell? ⟨W.heap.size, 0, none⟩ = some (.int .i64 nx) ∧ W'.cell? ⟨bx, ox + nx, none⟩ = some (.slice ax xl cx)) ((first | exact P4.out _ BW3.out SW3.out | exact P4.out _ BW3.out.drew SW3.out.drew | exact P4.out _ BW4.out SW4.out | exact P4.out _ BW5.out SW5.out))
    (first
      | (go_at_call 164; (with_reducible refine (CF1.out _ BW3.out.drew).mono ?_); rintro e W4 ⟨a4, c4, rfl, r4, b4⟩; have BW4 := Lib.hid (BW3.out.drew.trans (b4.mono BW3.out.size)); have SW4 := Lib.hid (SW3.out.drew.trans (Stay.of_below b4)); have CK1 := Lib.hid (keep_c w0.heap.size bo g nx out F1 _ W4 (O3.out.below (Below.trans ((Below.refl _ W3).drew) b4)) (by rw [E0.out]; exact hx) r4 (by omega) BW4.out.size (by rw [E0.out]; exact hdl)); clear b4 r4)
      | (go_at_call 35; (with_reducible refine CK1.out.mono ?_); rintro e W5 ⟨⟨u, rfl⟩, o5, b5, s5⟩; have BW5 := Lib.hid (BW4.out.trans b5); have SW5 := Lib.hid (SW4.out.trans s5); have O5 := Lib.hid o5; clear o5 b5 s5))
  clear v30 v31 v32 v33 v34 v35
  obtain ⟨v50, v51, v52, v53, v54, v55⟩ := HQ.out _ BW5.out SW5.out
  have E5 : Hid ((keepL out ((nx : Int), F1)).length = was.length) := by show _ = _; rw [keepL_len]; exact E0.out
  go_wp2_with fail
  go_region_held3 (fun W' => W'.cell? ⟨W.heap.size, 1, none⟩ = some (.int .i64 ny) ∧ W'.cell? ⟨bx, ox + ny, none⟩ = some (.slice ay yl cy)) ((first | exact P5.out _ BW5.out SW5.out | exact P5.out _ BW5.out.drew SW5.out.drew | exact P5.out _ BW6.out SW6.out | exact P5.out _ BW7.out SW7.out))
    (first
      | (go_at_call 164; (with_reducible refine (CF2.out _ BW5.out.drew).mono ?_); rintro e W6 ⟨a6, c6, rfl, r6, b6⟩; have BW6 := Lib.hid (BW5.out.drew.trans (b6.mono BW5.out.size)); have SW6 := Lib.hid (SW5.out.drew.trans (Stay.of_below b6)); have CK2 := Lib.hid (keep_c w0.heap.size bo g ny (keepL out ((nx : Int), F1)) F2 _ W6 (O5.out.below (Below.trans ((Below.refl _ W5).drew) b6)) (by rw [E5.out]; exact hy) r6 (by omega) BW6.out.size (by rw [E5.out]; exact hdl)); clear b6 r6)
      | (go_at_call 35; (with_reducible refine CK2.out.mono ?_); rintro e W7 ⟨⟨u, rfl⟩, o7, b7, s7⟩; have BW7 := Lib.hid (BW6.out.trans b7); have SW7 := Lib.hid (SW6.out.trans s7); have O7 := Lib.hid o7; clear o7 b7 s7))
  clear v50 v51 v52 v53 v54 v55
  have E7 : Hid ((keepL (keepL out ((nx : Int), F1)) ((ny : Int), F2)).length = was.length) := by show _ = _; rw [keepL_len]; exact E5.out
  have HL := Lib.hid (isAt_litn W7 [x1 * y1, x1 * y2, x2 * y1, x2 * y2] 3 (by simp))
  have hl7 : W7.heap.size ≠ g := by
    have h1 := SW7.out.1
    have h2 := HG.out
    simp at h1; omega
  have BW8 : Hid (∀ o, Below w0.heap.size w0 (W7.alloc o)) := fun o => BW7.out.alloc BW7.out.size o
  have SW8 : Hid (∀ o, Stay (W.alloc (.cells #[.int .i64 nx, .int .i64 ny, .int .i64 nz] 95)) (W7.alloc o) g) := fun o => SW7.out.alloc o
  have O8 : Hid (∀ o, OutAt (W7.alloc o) w0.heap.size bo g (keepL (keepL out ((nx : Int), F1)) ((ny : Int), F2))) := fun o => O7.out.below ((Below.refl _ _).alloc (Nat.le_refl _) o)
  go_wp2_with fail
  have B8' := BW8.out (.cells #[.int .i64 (x1 * y1), .int .i64 (x1 * y2), .int .i64 (x2 * y1), .int .i64 (x2 * y2)] 3)
  have S8' := SW8.out (.cells #[.int .i64 (x1 * y1), .int .i64 (x1 * y2), .int .i64 (x2 * y1), .int .i64 (x2 * y2)] 3)
  have O8' := O8.out (.cells #[.int .i64 (x1 * y1), .int .i64 (x1 * y2), .int .i64 (x2 * y1), .int .i64 (x2 * y2)] 3)
  have L8' : IsAt (W7.alloc (.cells #[.int .i64 (x1 * y1), .int .i64 (x1 * y2), .int .i64 (x2 * y1), .int .i64 (x2 * y2)] 3)) (.slice (some ⟨W7.heap.size, 0, none⟩) 4 4) [x1 * y1, x1 * y2, x2 * y1, x2 * y2] := HL.out
  generalize W7.alloc (.cells #[.int .i64 (x1 * y1), .int .i64 (x1 * y2), .int .i64 (x2 * y1), .int .i64 (x2 * y2)] 3) = W8 at *
  have BX := Lib.hid B8'
  have SX := Lib.hid S8'
  have OX := Lib.hid O8'
  have CMn : Hid (∀ W', Stay W8 W' g → Calls Tryz.prog 165 #[.slice (some ⟨W7.heap.size, 0, none⟩) 4 4] W' fun e w' => e = .returned (.int .i64 (min4 (x1 * y1) (x1 * y2) (x2 * y1) (x2 * y2))) ∧ W' = w') := fun W' h =>
    minI_c _ _ [x1 * y2, x2 * y1, x2 * y2] W' (L8'.stay h hl7) (by simp)
  have CMx : Hid (∀ W', Stay W8 W' g → Calls Tryz.prog 166 #[.slice (some ⟨W7.heap.size, 0, none⟩) 4 4] W' fun e w' => e = .returned (.int .i64 (max4 (x1 * y1) (x1 * y2) (x2 * y1) (x2 * y2))) ∧ W' = w') := fun W' h =>
    maxI_c _ _ [x1 * y2, x2 * y1, x2 * y2] W' (L8'.stay h hl7) (by simp)
  clear B8' S8' O8' L8' BW8 SW8 O8 HL
  have HKS : Hid (keepsL [((nx : Int), F1), ((ny : Int), F2), ((nz : Int), [(min4 (x1 * y1) (x1 * y2) (x2 * y1) (x2 * y2), max4 (x1 * y1) (x1 * y2) (x2 * y1) (x2 * y2))])] out = keepL (keepL (keepL out ((nx : Int), F1)) ((ny : Int), F2)) ((nz : Int), [(min4 (x1 * y1) (x1 * y2) (x2 * y1) (x2 * y2), max4 (x1 * y1) (x1 * y2) (x2 * y1) (x2 * y2))])) := rfl
  obtain ⟨mn, hmn⟩ : ∃ mn, mn = min4 (x1 * y1) (x1 * y2) (x2 * y1) (x2 * y2) := ⟨_, rfl⟩
  obtain ⟨mx, hmx⟩ : ∃ mx, mx = max4 (x1 * y1) (x1 * y2) (x2 * y1) (x2 * y2) := ⟨_, rfl⟩
  rw [← hmn] at CMn HKS ⊢
  rw [← hmx] at CMx HKS ⊢
  have HMN := Lib.hid hmn
  have HMX := Lib.hid hmx
  clear hmn hmx
  have hv8 := P7.out _ BX.out SX.out
  go_region_held3 (fun W' => W'.cell? ⟨W.heap.size, 2, none⟩ = some (.int .i64 nz)) ((first | exact P7.out _ BX.out SX.out | exact P7.out _ BX.out.drew SX.out.drew | exact P7.out _ BW9.out SW9.out | exact P7.out _ (BX.out.drew.alloc BX.out.size _) (SX.out.drew.alloc _) | exact P7.out _ BW10.out SW10.out))
    (first
      | (go_at_call 165; (with_reducible refine (CMn.out _ (Stay.refl W8 g).drew).mono ?_); rintro e w' ⟨rfl, rfl⟩)
      | (go_at_call 166; (with_reducible refine (CMx.out _ (Stay.refl W8 g).drew).mono ?_); rintro e w' ⟨rfl, rfl⟩)
      | (go_at_call 35; refine (keep_c w0.heap.size bo g nz (keepL (keepL out ((nx : Int), F1)) ((ny : Int), F2)) [(mn, mx)] _ _ ((OX.out.below ((Below.refl _ W8).drew)).below ((Below.refl _ _).alloc (Nat.le_refl _) _)) (by rw [E7.out]; exact hz) (rgAt_new W8.drew mn mx _) (by simp) (Nat.le_trans BX.out.size (by simp)) (by rw [E7.out]; exact hdl)).mono ?_; rintro e W10 ⟨⟨u, rfl⟩, o10, b10, s10⟩; have BW10 := Lib.hid ((BX.out.drew.alloc BX.out.size _).trans b10); have SW10 := Lib.hid ((SX.out.drew.alloc _).trans s10); have O10 := Lib.hid o10; clear o10 b10 s10))
  go_wp2_with fail
  go_ret
  exact ⟨below_of HW.out BW10.out (Nat.le_trans (HZ.out _).size SW10.out.1), (Stay.of_below (HZ.out _)).trans SW10.out, .inl ⟨_, rfl, rfl, by rw [← HMN.out, ← HMX.out, HKS.out]; exact O10.out⟩⟩
end Go.Proofs.YtajooiainglpmaaGreat
namespace Go.Proofs.YtajooiainglpmaaGreat
open Go.RowKit

theorem own_base {w : World} {B B' e size n : Nat} {v : Value} {xs : List Value} (h : w.ownsRow B e size v n xs) (hb : B' ≤ B) : w.ownsRow B' e size v n xs := by
  refine ⟨h.1, ?_⟩
  rcases h.2 with hn | ⟨g, cap, cur, rfl, hg, rest⟩
  · exact .inl hn
  · exact .inr ⟨g, cap, cur, rfl, Nat.le_trans hb hg, rest⟩
theorem BoxL.later {w W1 : World} {cs : Array Value} {T : TypeId} (_hp : 0 < cs.size) (bb : Below (w.alloc (.cells cs T)).heap.size (w.alloc (.cells cs T)) W1) : BoxL W1 w.heap.size cs.toList :=
  (BoxL.mk' w cs T).below bb (by simp)
theorem BoxL.laterD {w W1 : World} {cs : Array Value} {T : TypeId} (_hp : 0 < cs.size) (bb : Below (w.alloc (.cells cs T)).drew.heap.size (w.alloc (.cells cs T)).drew W1) : BoxL W1 w.heap.size cs.toList :=
  (BoxL.mk' w cs T).below (Below.trans ((Below.refl _ _).drew) bb) (by simp)

def negTo (l : List Int) (k : Nat) : List Int := (l.take k).map (fun z => -z) ++ l.drop k
theorem negTo_zero (l : List Int) : negTo l 0 = l := by simp [negTo]
theorem negTo_all (l : List Int) : negTo l l.length = l.map fun z => -z := by simp [negTo]
theorem negTo_len (l : List Int) (k : Nat) (hk : k ≤ l.length) : (negTo l k).length = l.length := by simp [negTo]; omega
theorem negTo_step (l : List Int) (k : Nat) (hk : k < l.length) : negTo l (k + 1) = (negTo l k).set k (-l[k]) := by
  unfold negTo
  rw [List.take_succ_eq_append_getElem hk, List.map_append, List.set_append_right _ _ (by simp; omega), List.drop_eq_getElem_cons hk]
  have e : k - ((l.take k).map fun z => -z).length = 0 := by simp; omega
  rw [e, List.set_cons_zero, List.append_assoc]; rfl
theorem negTo_at (l : List Int) (k : Nat) (hk : k < l.length) : (negTo l k)[k]? = some l[k] := by
  unfold negTo
  rw [List.getElem?_append_right (by simp; omega)]
  have e : k - ((l.take k).map fun z => -z).length = 0 := by simp; omega
  rw [e, List.getElem?_drop, Nat.add_zero, List.getElem?_eq_getElem hk]

theorem own_other {w : World} {base : Nat} {e : TypeId} {size : Nat} {v : Value} {n : Nat} {xs : List Value} (h : w.ownsRow base e size v n xs) {a : Addr} (ha : v.ownBlock ≠ some a.block) (u : Value) : (w.setCell a u).ownsRow base e size v n xs := by
  refine ⟨h.1, ?_⟩
  rcases h.2 with hn | ⟨g, cap, cur, rfl, hg, hgg, rest⟩
  · exact .inl hn
  · exact .inr ⟨g, cap, cur, rfl, hg, by rw [Below.heap_setCell _ _ _ _ (fun e => ha (by rw [← e]; rfl))]; exact hgg, rest⟩
theorem notMeet {Wa W : World} (Bm n m : Nat) (a3 a4 : Option Addr) (c3 c4 : Nat) (rel C : Int) (xs ys : List Value) (hq : BoxL W Bm [.slice none 0 0, .slice none 0 0, .int .i64 0, .int .i64 0]) (hb : Below Wa.heap.size Wa W) (hBm : Wa.heap.size ≤ Bm)
    (o3 : W.ownsRow Wa.heap.size 3 1 (.slice a3 n c3) n xs) (o4 : W.ownsRow Wa.heap.size 3 1 (.slice a4 m c4) m ys) (hn3 : (Value.slice a3 n c3).ownBlock ≠ some Bm) (hn4 : (Value.slice a4 m c4).ownBlock ≠ some Bm) (W' : World)
    (hW' : W' = (((W.setCell ⟨Bm, 0, none⟩ (.slice a3 n c3)).setCell ⟨Bm, 1, none⟩ (.slice a4 m c4)).setCell ⟨Bm, 2, none⟩ (.int .i64 rel)).setCell ⟨Bm, 3, none⟩ (.int .i64 C)) :
    Hid (BoxL W' Bm [.slice a3 n c3, .slice a4 m c4, .int .i64 rel, .int .i64 C]) ∧ W'.ownsRow Wa.heap.size 3 1 (.slice a3 n c3) n xs ∧ W'.ownsRow Wa.heap.size 3 1 (.slice a4 m c4) m ys ∧ Hid (Below Wa.heap.size Wa W') := by
  subst hW'
  refine ⟨?_, ?_, ?_, ?_⟩
  · exact (((hq.set 0 (by simp) (.slice a3 n c3)).set 1 (by simp) (.slice a4 m c4)).set 2 (by simp) (.int .i64 rel)).set 3 (by simp) (.int .i64 C)
  · exact own_other (own_other (own_other (own_other o3 (a := ⟨Bm, 0, none⟩) hn3 _) (a := ⟨Bm, 1, none⟩) hn3 _) (a := ⟨Bm, 2, none⟩) hn3 _) (a := ⟨Bm, 3, none⟩) hn3 _
  · exact own_other (own_other (own_other (own_other o4 (a := ⟨Bm, 0, none⟩) hn4 _) (a := ⟨Bm, 1, none⟩) hn4 _) (a := ⟨Bm, 2, none⟩) hn4 _) (a := ⟨Bm, 3, none⟩) hn4 _
  · exact (((hb.setCell (p := ⟨Bm, 0, none⟩) hBm _).setCell (p := ⟨Bm, 1, none⟩) hBm _).setCell (p := ⟨Bm, 2, none⟩) hBm _).setCell (p := ⟨Bm, 3, none⟩) hBm _

set_option maxRecDepth 100000 in
set_option maxHeartbeats 4800000 in
theorem not_c (va vb : Value) (rel C : Int) (coef vars : List Int) (w : World) (h0 : IsAt w va coef) (h1 : IsAt w vb vars) (hl0 : coef.length ≤ 16) (hl1 : vars.length ≤ 16) (hr : rel = 1 ∨ rel = 2 ∨ rel = 3)
    (hC : -1099511627777 ≤ C ∧ C ≤ 1099511627777) (hcb : ∀ c ∈ coef, -100000 ≤ c ∧ c ≤ 100000) :
    Calls Tryz.prog 148 #[.agg #[va, vb, .int .i64 rel, .int .i64 C]] w fun e w' => ∃ v0 v1, e = .returned (.agg #[v0, v1, .int .i64 (notRel rel), .int .i64 (notC rel C)]) ∧ IsAt w' v0 (notCoef rel coef) ∧ IsAt w' v1 vars ∧ Below w.heap.size w w' ∧ ∀ b, v1.ownBlock = some b → w.heap.size ≤ b := by
  obtain ⟨a0, c0, rfl, _⟩ := IsAt.shape h0
  obtain ⟨a1, c1, rfl, _⟩ := IsAt.shape h1
  have HZ : Hid (∀ o o2, Below w.heap.size w ((w.alloc o).alloc o2)) := fun o o2 => ((Below.refl _ _).alloc (Nat.le_refl _) o).alloc (by simp) o2
  have CC0 : Hid (∀ W, Below w.heap.size w W → Calls Tryz.prog 151 #[.slice a0 coef.length c0] W (RetI coef W)) := fun W h => cloneI_n _ coef W (h0.below h) (by omega)
  have CC1 : Hid (∀ W, Below w.heap.size w W → Calls Tryz.prog 151 #[.slice a1 vars.length c1] W (RetI vars W)) := fun W h => cloneI_n _ vars W (h1.below h) (by omega)
  have HCB := Lib.hid hcb
  clear h0 h1 hcb
  obtain ⟨Wa, hWa⟩ : ∃ Wa, Wa = (w.alloc (.cells #[.slice a0 coef.length c0, .slice a1 vars.length c1, .int .i64 rel, .int .i64 C] 28)).alloc (.cells #[.slice none 0 0, .slice none 0 0, .int .i64 0, .int .i64 0] 28) := ⟨_, rfl⟩
  have HBL : Hid (BoxL Wa w.heap.size [.slice a0 coef.length c0, .slice a1 vars.length c1, .int .i64 rel, .int .i64 C]) := by
    rw [hWa]
    exact (BoxL.mk' w #[.slice a0 coef.length c0, .slice a1 vars.length c1, .int .i64 rel, .int .i64 C] 28).below ((Below.refl _ _).alloc (Nat.le_refl _) _) (by simp)
  have HBR : Hid (BoxL Wa (w.heap.size + 1) [.slice none 0 0, .slice none 0 0, .int .i64 0, .int .i64 0]) := by
    have h := BoxL.mk' (w.alloc (.cells #[.slice a0 coef.length c0, .slice a1 vars.length c1, .int .i64 rel, .int .i64 C] 28)) #[.slice none 0 0, .slice none 0 0, .int .i64 0, .int .i64 0] 28
    rw [show (w.alloc (.cells #[.slice a0 coef.length c0, .slice a1 vars.length c1, .int .i64 rel, .int .i64 C] 28)).heap.size = w.heap.size + 1 by simp] at h
    rw [hWa]; exact h
  have HBW : Hid (Below w.heap.size w Wa) := by rw [hWa]; exact HZ.out _ _
  have hsz : Wa.heap.size = w.heap.size + 1 + 1 := by rw [hWa]; simp
  have HSZ := Lib.hid hsz
  have HSW : Hid (∀ W', Below Wa.heap.size Wa W' → W'.cell? ⟨w.heap.size, 0, none⟩ = some (.slice a0 coef.length c0) ∧ W'.cell? ⟨w.heap.size, 1, none⟩ = some (.slice a1 vars.length c1) ∧ W'.cell? ⟨w.heap.size, 2, none⟩ = some (.int .i64 rel) ∧ W'.cell? ⟨w.heap.size, 3, none⟩ = some (.int .i64 C)) := fun W' h => by
    have hh := HBL.out.below h (by omega)
    exact ⟨(hh.get 0 rfl).1, (hh.get 1 rfl).1, (hh.get 2 rfl).1, (hh.get 3 rfl).1⟩
  have CL0 : Hid (∀ W, Below Wa.heap.size Wa W → Calls Tryz.prog 151 #[.slice a0 coef.length c0] W (RetI coef W)) := fun W h => CC0.out W (HBW.out.trans (h.mono HBW.out.size))
  have CL1 : Hid (∀ W, Below Wa.heap.size Wa W → Calls Tryz.prog 151 #[.slice a1 vars.length c1] W (RetI vars W)) := fun W h => CC1.out W (HBW.out.trans (h.mono HBW.out.size))
  clear hsz
  go_enter Tryz.func148, Tryz.ntmps148
  go_wp2
  rw [← hWa]
  have HWa := Lib.hid hWa
  clear hWa CC0 CC1 HZ
  obtain ⟨sw0, sw1, sw2, sw3⟩ := HSW.out Wa (Below.refl _ _)
  go_upto_region 1 with fail
  go_cut [3] (fun p wx => ∃ Bm a3 c3 a4 c4, p = .pointer (some ⟨Bm, 0, none⟩) ∧ Hid (Wa.heap.size ≤ Bm) ∧ Hid (BoxL wx Bm [.slice a3 coef.length c3, .slice a4 vars.length c4, .int .i64 rel, .int .i64 C]) ∧
    wx.ownsRow Wa.heap.size 3 1 (.slice a3 coef.length c3) coef.length (coef.map (Value.int .i64)) ∧ wx.ownsRow Wa.heap.size 3 1 (.slice a4 vars.length c4) vars.length (vars.map (Value.int .i64)) ∧
    Hid (Apart (.slice a3 coef.length c3) (.slice a4 vars.length c4)) ∧ Hid ((Value.slice a3 coef.length c3).ownBlock ≠ some Bm) ∧ Hid ((Value.slice a4 vars.length c4).ownBlock ≠ some Bm) ∧ Hid (Below Wa.heap.size Wa wx))
  case first =>
    go_region_held3 (fun W' => W'.cell? ⟨w.heap.size, 0, none⟩ = some (.slice a0 coef.length c0) ∧ W'.cell? ⟨w.heap.size, 1, none⟩ = some (.slice a1 vars.length c1) ∧ W'.cell? ⟨w.heap.size, 2, none⟩ = some (.int .i64 rel) ∧ W'.cell? ⟨w.heap.size, 3, none⟩ = some (.int .i64 C)) ((refine HSW.out _ ?_; first | exact bw2 | exact ((((bw2.setCell (p := ⟨W1.heap.size, 0, none⟩) bw1.size _).setCell (p := ⟨W1.heap.size, 1, none⟩) bw1.size _).setCell (p := ⟨W1.heap.size, 2, none⟩) bw1.size _).setCell (p := ⟨W1.heap.size, 3, none⟩) bw1.size _) | exact ((((bw2.setCell (p := ⟨Wa.heap.size, 0, none⟩) (Nat.le_refl _) _).setCell (p := ⟨Wa.heap.size, 1, none⟩) (Nat.le_refl _) _).setCell (p := ⟨Wa.heap.size, 2, none⟩) (Nat.le_refl _) _).setCell (p := ⟨Wa.heap.size, 3, none⟩) (Nat.le_refl _) _) | exact (((((bw2.alloc bw2.size _).setCell (p := ⟨W2.heap.size, 0, none⟩) bw2.size _).setCell (p := ⟨W2.heap.size, 1, none⟩) bw2.size _).setCell (p := ⟨W2.heap.size, 2, none⟩) bw2.size _).setCell (p := ⟨W2.heap.size, 3, none⟩) bw2.size _) | exact bw2.alloc bw2.size _ | exact bw1 | exact bw1.alloc bw1.size _ | exact (Below.refl _ _).drew | exact ((Below.refl _ _).alloc (Nat.le_refl _) _) | exact ((Below.refl _ _).alloc (Nat.le_refl _) _).drew | go_grown))
      (first
        | (go_at_call 151; (with_reducible refine (CL0.out _ ?_).mono ?_); (· first | exact bw1 | exact bw1.alloc bw1.size _ | exact (Below.refl _ _).drew | exact (Below.refl _ _).alloc (Nat.le_refl _) _ | exact ((Below.refl _ _).alloc (Nat.le_refl _) _).drew | exact ((Below.refl _ _).drew).alloc (Nat.le_refl _) _ | go_grown); rintro e W1 ⟨a3, c3, rfl, i3, ⟨B3, o3, hB3⟩, b3⟩; have bw1 : Below Wa.heap.size Wa W1 := Below.trans (by first | exact bw1 | exact bw1.alloc bw1.size _ | exact (Below.refl _ _).drew | exact (Below.refl _ _).alloc (Nat.le_refl _) _ | exact ((Below.refl _ _).alloc (Nat.le_refl _) _).drew | exact ((Below.refl _ _).drew).alloc (Nat.le_refl _) _ | go_grown) (b3.mono (by first | exact Nat.le_refl _ | (simp; done) | (simp; omega))); clear i3; (try (have QB1 := Lib.hid (BoxL.laterD (by simp) b3))); (try (have QB1 := Lib.hid (BoxL.later (by simp) b3))); have OW3 := Lib.hid o3; have HB3 := Lib.hid hB3; have B31 := Lib.hid b3; clear o3 hB3 b3)
        | (go_at_call 151; (with_reducible refine (CL1.out _ ?_).mono ?_); (· first | exact bw1 | exact bw1.alloc bw1.size _ | exact (Below.refl _ _).drew | exact (Below.refl _ _).alloc (Nat.le_refl _) _ | exact ((Below.refl _ _).alloc (Nat.le_refl _) _).drew | exact ((Below.refl _ _).drew).alloc (Nat.le_refl _) _ | go_grown); rintro e W2 ⟨a4, c4, rfl, i4, ⟨B4, o4, hB4⟩, b4⟩; have bw2 : Below Wa.heap.size Wa W2 := Below.trans (by first | exact bw1 | exact bw1.alloc bw1.size _ | exact (Below.refl _ _).drew | exact (Below.refl _ _).alloc (Nat.le_refl _) _ | exact ((Below.refl _ _).alloc (Nat.le_refl _) _).drew | exact ((Below.refl _ _).drew).alloc (Nat.le_refl _) _ | go_grown) (b4.mono (by have := bw1.size; first | exact this | (simp; done) | (simp; omega))); clear i4; (try (have QB2 := Lib.hid (QB1.out.below b4 (by have := QB1.out.lt (by simp); simpa using this)); obtain ⟨qc0, qf0⟩ := QB2.out.get 0 rfl; obtain ⟨qc1, qf1⟩ := QB2.out.get 1 rfl; obtain ⟨qc2, qf2⟩ := QB2.out.get 2 rfl; obtain ⟨qc3, qf3⟩ := QB2.out.get 3 rfl)); (try (have QB2 := Lib.hid (BoxL.later (by simp) b4); obtain ⟨qc0, qf0⟩ := QB2.out.get 0 rfl; obtain ⟨qc1, qf1⟩ := QB2.out.get 1 rfl; obtain ⟨qc2, qf2⟩ := QB2.out.get 2 rfl; obtain ⟨qc3, qf3⟩ := QB2.out.get 3 rfl)); have OW4 := Lib.hid o4; have HB4 := Lib.hid hB4; have B42 := Lib.hid b4; clear o4 hB4 b4))
    · go_wp2_with fail
      go_meet
      have h31 : W1.heap.size ≤ W2.heap.size := B42.out.size
      have hs3 : Wa.heap.size ≤ B3 := HB3.out
      have hAP : Apart (.slice a3 coef.length c3) (.slice a4 vars.length c4) := fun b hb he => by have h1 := (OW3.out.lt b hb).2; have h2 := (OW4.out.lt b he).1; have h3 := HB4.out; omega
      exact ⟨_, a3, c3, a4, c4, rfl, Lib.hid bw2.size, Lib.hid (BoxL.mk' W2 #[.slice a3 coef.length c3, .slice a4 vars.length c4, .int .i64 rel, .int .i64 C] _), (own_below (own_base OW3.out hs3) B42.out).alloc _, (own_base OW4.out (Nat.le_trans bw1.size HB4.out)).alloc _, Lib.hid hAP, Lib.hid (own_far OW3.out h31), Lib.hid (own_far OW4.out (Nat.le_refl _)), Lib.hid (bw2.alloc bw2.size _)⟩
    · go_wp2_with fail
      go_meet
      have hb42 : Below W1.heap.size W1 W2 := Below.trans ((Below.refl _ _).alloc (Nat.le_refl _) _) (B42.out.mono (by simp))
      have h31 : W1.heap.size ≤ W2.heap.size := hb42.size
      have hs3 : Wa.heap.size ≤ B3 := HB3.out
      have hs4 := HB4.out
      simp at hs4
      have hAP : Apart (.slice a3 coef.length c3) (.slice a4 vars.length c4) := fun b hb he => by have h1 := (OW3.out.lt b hb).2; have h2 := (OW4.out.lt b he).1; omega
      have n4 : (Value.slice a4 vars.length c4).ownBlock ≠ some W1.heap.size := fun he => by have h2 := (OW4.out.lt _ he).1; omega
      obtain ⟨x1, x2, x3, x4⟩ := notMeet (Wa := Wa) W1.heap.size coef.length vars.length a3 a4 c3 c4 rel C _ _ QB2.out bw2 bw1.size (own_below (own_base OW3.out hs3) hb42) (own_base OW4.out (by have := bw1.size; omega)) (own_far OW3.out (Nat.le_refl _)) n4 _ rfl
      exact ⟨_, a3, c3, a4, c4, rfl, Lib.hid bw1.size, x1, x2, x3, Lib.hid hAP, Lib.hid (own_far OW3.out (Nat.le_refl _)), Lib.hid n4, x4⟩
    · go_wp2_with fail
      go_meet
      have h31 : W1.heap.size ≤ W2.heap.size := B42.out.size
      have hs3 : Wa.heap.size + 1 ≤ B3 := by have := HB3.out; simpa using this
      have hq1 : Wa.heap.size < W1.heap.size := QB1.out.lt (by simp)
      have hAP : Apart (.slice a3 coef.length c3) (.slice a4 vars.length c4) := fun b hb he => by have h1 := (OW3.out.lt b hb).2; have h2 := (OW4.out.lt b he).1; have h3 := HB4.out; omega
      have n3 : (Value.slice a3 coef.length c3).ownBlock ≠ some Wa.heap.size := fun he => by have h2 := (OW3.out.lt _ he).1; omega
      have n4 : (Value.slice a4 vars.length c4).ownBlock ≠ some Wa.heap.size := fun he => by have h2 := (OW4.out.lt _ he).1; have h3 := HB4.out; omega
      obtain ⟨x1, x2, x3, x4⟩ := notMeet (Wa := Wa) Wa.heap.size coef.length vars.length a3 a4 c3 c4 rel C _ _ QB2.out bw2 (Nat.le_refl _) (own_below (own_base OW3.out (by omega)) B42.out) (own_base OW4.out (Nat.le_trans bw1.size HB4.out)) n3 n4 _ rfl
      exact ⟨_, a3, c3, a4, c4, rfl, Lib.hid (Nat.le_refl _), x1, x2, x3, Lib.hid hAP, Lib.hid n3, Lib.hid n4, x4⟩
  case rest =>
    obtain ⟨Bm, a3, c3, a4, c4, rfl, HBm, HM, own3, own4, HAP, HN3, HN4, HBw⟩ := hcut
    have HL := Lib.hid (HBL.out.below HBw.out (by have := HSZ.out; omega))
    have HR := Lib.hid (HBR.out.below HBw.out (by have := HSZ.out; omega))
    have HLT : Hid (w.heap.size + 1 < Wa.heap.size) := by have := HSZ.out; show _ < _; omega
    clear sw0 sw1 sw2 sw3 HSW CL0 CL1 HBL HBR HWa
    rcases hr with hr | hr | hr
    · -- rel = 1
      subst hr
      have HMm := Lib.hid (HM.out.set 2 (by simp) (.int .i64 2))
      have HRm := Lib.hid (HR.out.far (a := ⟨Bm, 2, none⟩) (by have := HBm.out; have := HSZ.out; dsimp only; omega) (.int .i64 2))
      have O3m := Lib.hid (own_other own3 (a := ⟨Bm, 2, none⟩) HN3.out (.int .i64 2))
      have O4m := Lib.hid (own_other own4 (a := ⟨Bm, 2, none⟩) HN4.out (.int .i64 2))
      have BWm := Lib.hid (HBw.out.setCell (p := ⟨Bm, 2, none⟩) HBm.out (.int .i64 2))
      obtain ⟨m2, mf2⟩ := HM.out.get 2 rfl
      obtain ⟨l2, _⟩ := HL.out.get 2 rfl
      obtain ⟨p0, _⟩ := HMm.out.get 0 rfl
      obtain ⟨p1, _⟩ := HMm.out.get 1 rfl
      obtain ⟨p2, _⟩ := HMm.out.get 2 rfl
      obtain ⟨p3, _⟩ := HMm.out.get 3 rfl
      obtain ⟨r0, rf0⟩ := HRm.out.get 0 rfl
      obtain ⟨r1, rf1⟩ := HRm.out.get 1 rfl
      obtain ⟨r2, rf2⟩ := HRm.out.get 2 rfl
      obtain ⟨r3, rf3⟩ := HRm.out.get 3 rfl
      have R4 := Lib.hid ((((HRm.out.set 0 (by simp) (.slice a3 coef.length c3)).set 1 (by simp) (.slice a4 vars.length c4)).set 2 (by simp) (.int .i64 2)).set 3 (by simp) (.int .i64 C))
      obtain ⟨s0, _⟩ := R4.out.get 0 rfl
      obtain ⟨s1, _⟩ := R4.out.get 1 rfl
      obtain ⟨s2, _⟩ := R4.out.get 2 rfl
      obtain ⟨s3, _⟩ := R4.out.get 3 rfl
      clear own3 own4
      go_wp2
      refine bodyPost_ret (v := .agg #[.slice a3 coef.length c3, .slice a4 vars.length c4, .int .i64 2, .int .i64 C]) ?_ rfl ⟨_, _, rfl, ?_, ?_, ?_, fun b hb => Nat.le_trans HBW.out.size (O4m.out.lt b hb).1⟩
      · simp [results, Tryz.results148, go_sem, s0, s1, s2, s3]
      · exact SlAt.of_own (own_setCell (own_setCell (own_setCell (own_setCell O3m.out (a := ⟨w.heap.size + 1, 0, none⟩) HLT.out _) (a := ⟨w.heap.size + 1, 1, none⟩) HLT.out _) (a := ⟨w.heap.size + 1, 2, none⟩) HLT.out _) (a := ⟨w.heap.size + 1, 3, none⟩) HLT.out _)
      · exact SlAt.of_own (own_setCell (own_setCell (own_setCell (own_setCell O4m.out (a := ⟨w.heap.size + 1, 0, none⟩) HLT.out _) (a := ⟨w.heap.size + 1, 1, none⟩) HLT.out _) (a := ⟨w.heap.size + 1, 2, none⟩) HLT.out _) (a := ⟨w.heap.size + 1, 3, none⟩) HLT.out _)
      · exact (((((HBW.out.trans (BWm.out.mono HBW.out.size)).setCell (p := ⟨w.heap.size + 1, 0, none⟩) (Nat.le_succ _) _).setCell (p := ⟨w.heap.size + 1, 1, none⟩) (Nat.le_succ _) _).setCell (p := ⟨w.heap.size + 1, 2, none⟩) (Nat.le_succ _) _).setCell (p := ⟨w.heap.size + 1, 3, none⟩) (Nat.le_succ _) _)
    · -- rel = 2
      subst hr
      have HMm := Lib.hid (HM.out.set 2 (by simp) (.int .i64 1))
      have HRm := Lib.hid (HR.out.far (a := ⟨Bm, 2, none⟩) (by have := HBm.out; have := HSZ.out; dsimp only; omega) (.int .i64 1))
      have O3m := Lib.hid (own_other own3 (a := ⟨Bm, 2, none⟩) HN3.out (.int .i64 1))
      have O4m := Lib.hid (own_other own4 (a := ⟨Bm, 2, none⟩) HN4.out (.int .i64 1))
      have BWm := Lib.hid (HBw.out.setCell (p := ⟨Bm, 2, none⟩) HBm.out (.int .i64 1))
      obtain ⟨m2, mf2⟩ := HM.out.get 2 rfl
      obtain ⟨l2, _⟩ := HL.out.get 2 rfl
      obtain ⟨p0, _⟩ := HMm.out.get 0 rfl
      obtain ⟨p1, _⟩ := HMm.out.get 1 rfl
      obtain ⟨p2, _⟩ := HMm.out.get 2 rfl
      obtain ⟨p3, _⟩ := HMm.out.get 3 rfl
      obtain ⟨r0, rf0⟩ := HRm.out.get 0 rfl
      obtain ⟨r1, rf1⟩ := HRm.out.get 1 rfl
      obtain ⟨r2, rf2⟩ := HRm.out.get 2 rfl
      obtain ⟨r3, rf3⟩ := HRm.out.get 3 rfl
      have R4 := Lib.hid ((((HRm.out.set 0 (by simp) (.slice a3 coef.length c3)).set 1 (by simp) (.slice a4 vars.length c4)).set 2 (by simp) (.int .i64 1)).set 3 (by simp) (.int .i64 C))
      obtain ⟨s0, _⟩ := R4.out.get 0 rfl
      obtain ⟨s1, _⟩ := R4.out.get 1 rfl
      obtain ⟨s2, _⟩ := R4.out.get 2 rfl
      obtain ⟨s3, _⟩ := R4.out.get 3 rfl
      clear own3 own4
      go_wp2
      refine bodyPost_ret (v := .agg #[.slice a3 coef.length c3, .slice a4 vars.length c4, .int .i64 1, .int .i64 C]) ?_ rfl ⟨_, _, rfl, ?_, ?_, ?_, fun b hb => Nat.le_trans HBW.out.size (O4m.out.lt b hb).1⟩
      · simp [results, Tryz.results148, go_sem, s0, s1, s2, s3]
      · exact SlAt.of_own (own_setCell (own_setCell (own_setCell (own_setCell O3m.out (a := ⟨w.heap.size + 1, 0, none⟩) HLT.out _) (a := ⟨w.heap.size + 1, 1, none⟩) HLT.out _) (a := ⟨w.heap.size + 1, 2, none⟩) HLT.out _) (a := ⟨w.heap.size + 1, 3, none⟩) HLT.out _)
      · exact SlAt.of_own (own_setCell (own_setCell (own_setCell (own_setCell O4m.out (a := ⟨w.heap.size + 1, 0, none⟩) HLT.out _) (a := ⟨w.heap.size + 1, 1, none⟩) HLT.out _) (a := ⟨w.heap.size + 1, 2, none⟩) HLT.out _) (a := ⟨w.heap.size + 1, 3, none⟩) HLT.out _)
      · exact (((((HBW.out.trans (BWm.out.mono HBW.out.size)).setCell (p := ⟨w.heap.size + 1, 0, none⟩) (Nat.le_succ _) _).setCell (p := ⟨w.heap.size + 1, 1, none⟩) (Nat.le_succ _) _).setCell (p := ⟨w.heap.size + 1, 2, none⟩) (Nat.le_succ _) _).setCell (p := ⟨w.heap.size + 1, 3, none⟩) (Nat.le_succ _) _)
    · -- rel = 3
      subst hr
      obtain ⟨m0, mf0⟩ := HM.out.get 0 rfl
      obtain ⟨l2, _⟩ := HL.out.get 2 rfl
      go_wp2
      go_loopw [21] (fun s wr => ∃ k : Nat, k ≤ coef.length ∧ s = .int .i64 k ∧ Hid (BoxL wr w.heap.size [.slice a0 coef.length c0, .slice a1 vars.length c1, .int .i64 3, .int .i64 C]) ∧ Hid (BoxL wr (w.heap.size + 1) [.slice none 0 0, .slice none 0 0, .int .i64 0, .int .i64 0]) ∧ Hid (BoxL wr Bm [.slice a3 coef.length c3, .slice a4 vars.length c4, .int .i64 3, .int .i64 C]) ∧
        wr.ownsRow Wa.heap.size 3 1 (.slice a3 coef.length c3) coef.length ((negTo coef k).map (Value.int .i64)) ∧ wr.ownsRow Wa.heap.size 3 1 (.slice a4 vars.length c4) vars.length (vars.map (Value.int .i64)) ∧ Hid (Below Wa.heap.size Wa wr)) (fun s _ => coef.length - (intOf s).toNat)
      case atStart => exact ⟨0, by omega, rfl, HL, HR, HM, by rw [negTo_zero]; exact own3, own4, HBw⟩
      case round =>
        clear m0 mf0 l2 own3 own4 HL HR HM HBw
        obtain ⟨k, hk, rfl, HL, HR, HM, own3, own4, HBw⟩ := hrel
        obtain ⟨m0, mf0⟩ := HM.out.get 0 rfl
        by_cases hlt : k < coef.length
        · have own3' := own3
          rcases own3.2 with ⟨_, h0⟩ | ⟨g3, cap3, cur, he, hg, hgg, hnc, _⟩
          · omega
          · simp only [Value.slice.injEq, true_and] at he
            obtain ⟨rfl, rfl⟩ := he
            have hc3 := own3'.cellAt k (by omega)
            have hf3 := own3'.frozenAt k
            rw [List.getElem?_map, negTo_at coef k hlt, Option.map_some] at hc3
            have hcb := HCB.out _ (List.getElem_mem hlt)
            have S1 := Lib.hid (negTo_step coef k hlt)
            have hsl := negTo_len coef k hk
            have j1 : (k : Int) < coef.length := by omega
            have hng : Bm ≠ g3 := fun e => HN3.out (by rw [e]; rfl)
            generalize coef[k] = z at *
            have OW := Lib.hid own3
            have OV := Lib.hid own4
            clear own3 own3' own4 hgg
            go_wp2
            go_region
            go_wp2
            refine ⟨⟨k + 1, by omega, by go_num, Lib.hid (HL.out.far (a := ⟨g3, k, none⟩) (by have := HSZ.out; dsimp only; omega) _), Lib.hid (HR.out.far (a := ⟨g3, k, none⟩) (by have := HSZ.out; dsimp only; omega) _), Lib.hid (HM.out.far (a := ⟨g3, k, none⟩) hng _), ?_, World.ownsRow.drew (own_other OV.out (a := ⟨g3, k, none⟩) (fun he => HAP.out g3 rfl he) _), Lib.hid ((HBw.out.setCell (p := ⟨g3, k, none⟩) hg _).drew)⟩, by simp [intOf]; omega⟩
            rw [S1.out, List.map_set]
            exact World.ownsRow.drew (OW.out.stored k _).1
        · obtain rfl : k = coef.length := by omega
          rw [negTo_all] at own3
          have HMm := Lib.hid (HM.out.set 3 (by simp) (.int .i64 (-C - 1)))
          have HRm := Lib.hid (HR.out.far (a := ⟨Bm, 3, none⟩) (by have := HBm.out; have := HSZ.out; dsimp only; omega) (.int .i64 (-C - 1)))
          have O3m := Lib.hid (own_other own3 (a := ⟨Bm, 3, none⟩) HN3.out (.int .i64 (-C - 1)))
          have O4m := Lib.hid (own_other own4 (a := ⟨Bm, 3, none⟩) HN4.out (.int .i64 (-C - 1)))
          have BWm := Lib.hid (HBw.out.setCell (p := ⟨Bm, 3, none⟩) HBm.out (.int .i64 (-C - 1)))
          obtain ⟨m3, mf3⟩ := HM.out.get 3 rfl
          obtain ⟨l3, _⟩ := HL.out.get 3 rfl
          obtain ⟨p0, _⟩ := HMm.out.get 0 rfl
          obtain ⟨p1, _⟩ := HMm.out.get 1 rfl
          obtain ⟨p2, _⟩ := HMm.out.get 2 rfl
          obtain ⟨p3, _⟩ := HMm.out.get 3 rfl
          obtain ⟨r0, rf0⟩ := HRm.out.get 0 rfl
          obtain ⟨r1, rf1⟩ := HRm.out.get 1 rfl
          obtain ⟨r2, rf2⟩ := HRm.out.get 2 rfl
          obtain ⟨r3, rf3⟩ := HRm.out.get 3 rfl
          have R4 := Lib.hid ((((HRm.out.set 0 (by simp) (.slice a3 coef.length c3)).set 1 (by simp) (.slice a4 vars.length c4)).set 2 (by simp) (.int .i64 3)).set 3 (by simp) (.int .i64 (-C - 1)))
          obtain ⟨s0, _⟩ := R4.out.get 0 rfl
          obtain ⟨s1, _⟩ := R4.out.get 1 rfl
          obtain ⟨s2, _⟩ := R4.out.get 2 rfl
          obtain ⟨s3, _⟩ := R4.out.get 3 rfl
          clear own3 own4
          go_wp2
          refine bodyPost_ret (v := .agg #[.slice a3 coef.length c3, .slice a4 vars.length c4, .int .i64 3, .int .i64 (-C - 1)]) ?_ rfl ⟨_, _, rfl, ?_, ?_, ?_, fun b hb => Nat.le_trans HBW.out.size (O4m.out.lt b hb).1⟩
          · simp [results, Tryz.results148, go_sem, s0, s1, s2, s3]
          · have h := SlAt.of_own (own_setCell (own_setCell (own_setCell (own_setCell O3m.out (a := ⟨w.heap.size + 1, 0, none⟩) HLT.out (.slice a3 coef.length c3)) (a := ⟨w.heap.size + 1, 1, none⟩) HLT.out (.slice a4 vars.length c4)) (a := ⟨w.heap.size + 1, 2, none⟩) HLT.out (.int .i64 3)) (a := ⟨w.heap.size + 1, 3, none⟩) HLT.out (.int .i64 (-C - 1)))
            have e : notCoef 3 coef = coef.map fun z => -z := by simp [notCoef]
            rw [e]
            show SlAt _ 1 _ (coef.map fun z => -z).length _
            rw [List.length_map]; exact h
          · exact SlAt.of_own (own_setCell (own_setCell (own_setCell (own_setCell O4m.out (a := ⟨w.heap.size + 1, 0, none⟩) HLT.out _) (a := ⟨w.heap.size + 1, 1, none⟩) HLT.out _) (a := ⟨w.heap.size + 1, 2, none⟩) HLT.out _) (a := ⟨w.heap.size + 1, 3, none⟩) HLT.out _)
          · exact (((((HBW.out.trans (BWm.out.mono HBW.out.size)).setCell (p := ⟨w.heap.size + 1, 0, none⟩) (Nat.le_succ _) _).setCell (p := ⟨w.heap.size + 1, 1, none⟩) (Nat.le_succ _) _).setCell (p := ⟨w.heap.size + 1, 2, none⟩) (Nat.le_succ _) _).setCell (p := ⟨w.heap.size + 1, 3, none⟩) (Nat.le_succ _) _)
end Go.Proofs.YtajooiainglpmaaGreat
