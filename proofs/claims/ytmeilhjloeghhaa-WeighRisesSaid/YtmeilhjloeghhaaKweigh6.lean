/-
  weigh.Order, walked.
  What the laws of the order share.
  coneylaw02.twin of a float and itself, walked.
-/
import Derived.Test.YtmeilhjloeghhaaKweigh5
import Derived.IntWalk
import Derived.Test.YtmeilhjloeghhaaKweigh1
namespace Go.Proofs.Ytmeilhjloeghhaa
open Go.RowKit

set_option maxRecDepth 100000 in
theorem orderCmp_c (bs : List Nat) (bx : Nat) (v : Value) (W : World) (hbx : W.cell? ⟨bx, 0, none⟩ = some v) (h : FlAt W v bs) (hl : bs.length ≤ 4096) (i k : Nat) (hi : i < bs.length) (hk : k < bs.length) :
    Calls Try.prog 25 #[.int .i64 i, .int .i64 k, .pointer (some ⟨bx, 0, none⟩)] W fun e w' => e = .returned (.int .i64 (cmpK (keyAt bs i) (keyAt bs k))) ∧ ∃ m, w' = W.drewN m := by
  obtain ⟨b, off, cap, rfl, hcap, hb, hc⟩ := FlAt.at h (by omega)
  have c1 := hc i hi
  have c2 := hc k hk
  have e1 : keyAt bs i = wk bs[i] := by unfold keyAt; rw [List.getD_eq_getElem?_getD, List.getElem?_eq_getElem hi]; rfl
  have e2 : keyAt bs k = wk bs[k] := by unfold keyAt; rw [List.getD_eq_getElem?_getD, List.getElem?_eq_getElem hk]; rfl
  rw [e1, e2]
  have CC : Hid (∀ n, Calls Try.prog 22 #[.float .f64 bs[i], .float .f64 bs[k]] (W.drewN n) fun e w' => e = .returned (.int .i64 (cmpK (wk bs[i]) (wk bs[k]))) ∧ ∃ m, w' = W.drewN m) := fun n => (compare_any _ _ (W.drewN n) (h.2 _ (List.getElem_mem hi)) (h.2 _ (List.getElem_mem hk))).mono fun e w' ⟨he, hw⟩ => ⟨he, n, hw.symm⟩
  generalize bs[i] = x at *
  generalize bs[k] = y at *
  generalize cmpK (wk x) (wk y) = c at *
  have j1 : (i : Int) < bs.length := by omega
  have j2 : (k : Int) < bs.length := by omega
  clear h hc e1 e2
  go_enter Try.func25, Try.ntmps25
  go_upto_region 1 with fail
  go_quiet ((go_at_call 22; exact CC.out _))
  go_wp2
  go_ret
  exact ⟨rfl, _, rfl⟩
theorem cmpC_of {bs : List Nat} {bx blk : Nat} {v : Value} {w W0 : World} (hbx : W0.cell? ⟨bx, 0, none⟩ = some v) (hbb : bx < blk) (h : FlAt w v bs) (hl : bs.length ≤ 4096) (hw : w.heap.size ≤ blk) (hW : Below w.heap.size w W0) : CmpC (keyAt bs) bs.length bx blk W0 := fun W hB i k hi hk =>
  orderCmp_c bs bx v W ((hB.cell (p := ⟨bx, 0, none⟩) hbb).trans hbx) (h.below (hW.trans (hB.mono hw))) hl i k hi hk
theorem mk_places (n : Nat) (hn : n ≤ 4096) (W : World) : (Instr.makeSlice 31 (.int .i64 n) (.int .i64 n)).run Try.prog W = .ok (.slice (some ⟨W.heap.size, 0, none⟩) n n) (W.alloc (.cells (madeCells #[.int .i64 0] n) 3)) := by
  obtain ⟨i0, hi, hz0, hz1, hz2⟩ := info_parts Try.infoInt
  have h := run_make (P := Try.prog) W 31 3 i0 (.int .i64 0) Try.underlying31 hi hz0 .i64 .i64 n n (by omega) (Int.le_refl _) (by rw [hz2]; omega) (by omega)
  rw [h, hz1]
  simp [Value.cells]
theorem made_places (n : Nat) : (madeCells #[.int .i64 0] n).toList = natI (List.range' 0 0 ++ List.replicate (n - 0) 0) := by
  apply List.ext_getElem?
  intro j
  by_cases hj : j < n
  · have e : j % 1 = 0 := by omega
    simp [madeCells, natI, hj, e]
  · rw [List.getElem?_eq_none (by simp [madeCells]; omega), List.getElem?_eq_none (by rw [natI_len]; simp; omega)]
theorem places_set {i n : Nat} (h : i < n) : (List.range' 0 i ++ List.replicate (n - i) 0).set i i = List.range' 0 (i + 1) ++ List.replicate (n - (i + 1)) 0 := by
  have e : List.replicate (n - i) 0 = 0 :: List.replicate (n - (i + 1)) 0 := by rw [show n - i = n - (i + 1) + 1 by omega]; rfl
  rw [e, List.set_append_right _ _ (by simp), List.length_range', Nat.sub_self, List.set_cons_zero, List.range'_concat]
  simp
theorem order_perm (ks : Nat → Option Int) (n : Nat) : (orderO ks n).Perm (List.range' 0 n) := by
  have hn : (orderO ks n).Nodup := (orderO_sorted ks n).imp fun h e => by subst e; exact ahead_asymm h h
  refine (List.perm_ext_iff_of_nodup hn List.nodup_range').2 fun x => ?_
  rw [mem_orderO, List.mem_range'_1]; omega
theorem slAt_row {w : World} {blk n : Nat} {l : List Nat} (h : BoxL w blk (natI l)) (hl : l.length = n) (hn : n ≤ 4096) (hb : blk < w.heap.size) : SlAt w 1 (.slice (some ⟨blk, 0, none⟩) n n) n (natI l) :=
  ⟨by rw [natI_len]; omega, some ⟨blk, 0, none⟩, n, rfl, Nat.le_refl _, by simp [maxLen]; omega, (fun h => by cases h), fun _ => ⟨blk, 0, rfl, hb, fun j hj => by rw [Nat.zero_add]; exact (h j (by rw [natI_len]; omega)).1⟩⟩
set_option maxRecDepth 100000 in
set_option maxHeartbeats 1600000 in
theorem order_c (v : Value) (bs : List Nat) (w : World) (h : FlAt w v bs) (hl : bs.length ≤ 4096) :
    Calls Try.prog 16 #[v] w fun e w' => ∃ blk, e = .returned (.slice (some ⟨blk, 0, none⟩) bs.length bs.length) ∧ SlAt w' 1 (.slice (some ⟨blk, 0, none⟩) bs.length bs.length) bs.length (natI (orderO (keyAt bs) bs.length)) ∧ w.heap.size ≤ blk ∧ Below w.heap.size w w' := by
  obtain ⟨ao, cap, rfl, _⟩ := h.1.shape
  have H := Lib.hid h
  have HMK := mk_places bs.length hl (w.alloc (.cells #[.slice ao bs.length cap] 25))
  obtain ⟨V, hV⟩ : ∃ V, V = (w.alloc (.cells #[.slice ao bs.length cap] 25)).alloc (.cells (madeCells #[.int .i64 0] bs.length) 3) := ⟨_, rfl⟩
  have BV : Hid (Below w.heap.size w V) := by rw [hV]; exact ((Below.refl _ _).alloc (Nat.le_refl _) _).alloc (by simp) _
  have sV : V.heap.size = w.heap.size + 2 := by rw [hV]; simp
  have XB : Hid (BoxL V w.heap.size [.slice ao bs.length cap]) := by
    rw [hV]; exact (BoxL.mk' w #[.slice ao bs.length cap] 25).below ((Below.refl (w.heap.size + 1) _).alloc (by simp) _) (by omega)
  have XR : Hid (BoxL V (w.heap.size + 1) (natI (List.range' 0 0 ++ List.replicate (bs.length - 0) 0))) := by
    rw [← made_places, hV]
    have h := BoxL.mk' (w.alloc (.cells #[.slice ao bs.length cap] 25)) (madeCells #[.int .i64 0] bs.length) 3
    simp only [World.size_alloc] at h
    exact h
  have HV := Lib.hid hV
  have HSV := Lib.hid sV
  simp only [World.size_alloc] at HMK
  clear h hV sV
  go_enter Try.func16, Try.ntmps16
  go_upto_region 2 with fail
  rw [← HV.out]
  clear HV HMK
  obtain ⟨c0, _⟩ := XB.out.get 0 rfl
  go_upto_region 3 with fail
  clear c0
  go_loopg [4, 10] bs.length (fun f s4 s wr => ∃ i : Nat, s = .int .i64 i ∧ i ≤ bs.length ∧ Hid (f = bs.length - i) ∧ Hid (BoxL wr (w.heap.size + 1) (natI (List.range' 0 i ++ List.replicate (bs.length - i) 0))) ∧ Hid (Below (w.heap.size + 1) V wr))
  case atStart => exact ⟨0, rfl, by omega, rfl, XR, Below.refl _ _⟩
  case round =>
    obtain ⟨i, rfl, hi, HN, HX, HW⟩ := hrel
    have XW := Lib.hid (XB.out.below HW.out (Nat.lt_succ_self _))
    obtain ⟨c0, _⟩ := XW.out.get 0 rfl
    by_cases hlt : i < bs.length
    · have hli : (i : Int) < bs.length := by omega
      have hil : i < (natI (List.range' 0 i ++ List.replicate (bs.length - i) 0)).length := by rw [natI_len]; simp; omega
      obtain ⟨c1, f1⟩ := HX.out.get i (List.getElem?_eq_getElem hil)
      have HNX : Hid (BoxL (wr.setCell ⟨w.heap.size + 1, i, none⟩ (.int .i64 (i : Int))) (w.heap.size + 1) (natI (List.range' 0 (i + 1) ++ List.replicate (bs.length - (i + 1)) 0))) := by
        have h := HX.out.set i hil (.int .i64 (i : Int))
        rw [← natI_set, places_set hlt] at h
        exact h
      have HNB : Hid (Below (w.heap.size + 1) V (wr.setCell ⟨w.heap.size + 1, i, none⟩ (.int .i64 (i : Int)))) := HW.out.setCell (p := ⟨w.heap.size + 1, i, none⟩) (Nat.le_refl _) _
      generalize (natI (List.range' 0 i ++ List.replicate (bs.length - i) 0))[i] = u at *
      clear hil
      go_wp2
      go_roundg (bs.length - (i + 1))
      case measure => have := HN.out; omega
      case rel => exact ⟨i + 1, by go_num, by omega, rfl, HNX, HNB⟩
    · have hli : ¬ ((i : Int) < bs.length) := by omega
      obtain rfl : i = bs.length := by omega
      have CS : Hid (Calls Try.prog 24 #[.slice (some ⟨w.heap.size + 1, 0, none⟩) bs.length bs.length, .func (.func 25) #[] #[.pointer (some ⟨w.heap.size, 0, none⟩)]] wr (RetSt (keyAt bs) (w.heap.size + 1) bs.length wr)) :=
        sortStable_c (keyAt bs) (w.heap.size + 1) bs.length bs.length w.heap.size wr wr hl (cmpC_of c0 (Nat.lt_succ_self _) H.out hl (Nat.le_succ _) (BV.out.trans (HW.out.mono (Nat.le_succ _)))) (by have := HX.out; simpa using this) (Below.refl _ _)
      have hsz : w.heap.size + 2 ≤ wr.heap.size := by have := HW.out.size; have := HSV.out; omega
      go_wp2_with (first | (go_at_call 24; (with_reducible refine CS.out.mono ?_); rintro e V2 ⟨⟨u2, rfl⟩, ⟨M, hp, hs, hx⟩, hb⟩; have P2 := Lib.hid hp; have S2 := Lib.hid hs; have X2 := Lib.hid hx; have B2 := Lib.hid hb; clear hp hs hx hb))
      go_ret
      have he : M = orderO (keyAt bs) bs.length := sorted_unique S2.out (orderO_sorted _ _) (P2.out.trans (order_perm _ _).symm)
      refine ⟨w.heap.size + 1, rfl, ?_, Nat.le_succ _, BV.out.trans ((HW.out.trans B2.out).mono (Nat.le_succ _))⟩
      rw [← he]
      exact slAt_row X2.out (by rw [he, orderO_length]) hl (by have := B2.out.size; omega)
end Go.Proofs.Ytmeilhjloeghhaa
namespace Go.Proofs.Ytmeilhjloeghhaa
open Go.RowKit

theorem q_same {P : Program} {f : FuncId} {args : Array Value} {W0 : World} {v : Value} {k : Nat} (h : ∀ w, Calls P f args w fun e w' => e = .returned v ∧ w = w') : Calls P f args (W0.drewN k) fun e w'' => e = .returned v ∧ ∃ m, w'' = W0.drewN m :=
  (h _).mono fun _ _ ⟨he, hw⟩ => ⟨he, k, hw.symm⟩
theorem slAt_nat {w : World} {ao : Option Addr} {n cap : Nat} {l : List Nat} (h : SlAt w 1 (.slice ao n cap) n (natI l)) (j : Nat) (hj : j < l.length) : ∃ b off, ao = some ⟨b, off, none⟩ ∧ b < w.heap.size ∧ w.cell? ⟨b, off + j, none⟩ = some (.int .i64 (l[j] : Int)) := by
  have hl := h.len
  rw [natI_len] at hl
  obtain ⟨b, off, c', he, _, _, hb, hx⟩ := SlAt.pos h (by omega)
  simp only [Value.slice.injEq] at he
  obtain ⟨rfl, -, -⟩ := he
  exact ⟨b, off, rfl, hb, by rw [hx j (by omega)]; simp [natI, hj]⟩
set_option maxRecDepth 100000 in
theorem sameNat_c (va vb : Value) (l : List Nat) (n : Nat) (hn : l.length = n) (hn4 : n ≤ 4096) (w : World) (ha : SlAt w 1 va n (natI l)) (hb : SlAt w 1 vb n (natI l)) :
    Calls Try.prog 18 #[va, vb] w fun e w' => e = .returned (.bool true) ∧ Below w.heap.size w w' := by
  obtain ⟨ao, cap, rfl, _⟩ := ha.shape
  obtain ⟨ao2, cap2, rfl, _⟩ := hb.shape
  have HA := Lib.hid ha
  have HB := Lib.hid hb
  have HL := Lib.hid hn
  clear ha hb hn
  go_enter Try.func18, Try.ntmps18
  go_wp2
  go_loopg [5] n (fun m s wr => ∃ k q : Nat, k ≤ n ∧ s = .int .i64 k ∧ Hid (m = n - k) ∧ Hid (wr = w.drewN q))
  case atStart => exact ⟨0, 0, by omega, rfl, rfl, rfl⟩
  case round =>
    obtain ⟨k, q, hk, rfl, HM, HW⟩ := hrel
    have hBW : Hid (Below w.heap.size w wr) := by show Below _ _ _; rw [HW.out]; exact below_drewN (Below.refl _ _) q
    by_cases hlt : k < n
    · obtain ⟨b1, o1, rfl, q1, c1⟩ := slAt_nat (HA.out.below hBW.out) k (by rw [HL.out]; exact hlt)
      obtain ⟨b2, o2, rfl, q2, c2⟩ := slAt_nat (HB.out.below hBW.out) k (by rw [HL.out]; exact hlt)
      have j1 : (k : Int) < n := by omega
      have hkl : k < l.length := by rw [HL.out]; exact hlt
      generalize l[k] = p at *
      clear hkl
      go_upto_region 6 with fail
      go_quiet (fail)
      go_wp2
      go_roundg (n - (k + 1))
      case measure => have := HM.out; omega
      case rel => exact ⟨k + 1, _, by omega, by go_num, rfl, Lib.hid (by rw [HW.out, World.drewN_drewN])⟩
    · obtain rfl : k = n := by omega
      go_wp2
      go_ret
      exact ⟨rfl, hBW.out⟩
theorem ahead_facts {ks : Nat → Option Int} {x y : Nat} (h : ahead ks y x) : lessK (ks x) (ks y) = false ∧ ((ks y).isNone = true → (ks x).isNone = true) ∧ (lessK (ks y) (ks x) = false → y < x) := by
  rcases h with h | ⟨h1, h2⟩
  · refine ⟨lessK_asymm h, fun hn => ?_, fun h3 => by rw [h] at h3; cases h3⟩
    rw [Option.isNone_iff_eq_none] at hn
    rw [hn] at h
    cases hx : ks x <;> rw [hx] at h <;> simp [lessK] at h
  · refine ⟨h1, fun hn => ?_, fun _ => h2⟩
    rw [Option.isNone_iff_eq_none] at hn
    rw [hn] at h1
    cases hx : ks x with
    | none => rfl
    | some a => rw [hx] at h1; simp [lessK] at h1
theorem order_step (ks : Nat → Option Int) (n i : Nat) (h1 : i + 1 < (orderO ks n).length) : ahead ks (orderO ks n)[i] (orderO ks n)[i + 1] :=
  List.pairwise_iff_getElem.1 (orderO_sorted ks n) i (i + 1) (by omega) h1 (by omega)
end Go.Proofs.Ytmeilhjloeghhaa
namespace Go.Proofs.Ytmeilhjloeghhaa
open Go.RowKit

theorem wk_zeros {x : Nat} (hx : x < 2 ^ 64) (h : wk x = some 0) : x = 0 ∨ x = 2 ^ 63 := by
  unfold wk fkey at h
  have hs : Ieee.double.signWeight = 2 ^ 63 := by decide
  split at h
  · injection h with h
    unfold wrung at h
    rw [hs] at h
    have : x % 2 ^ 63 = 0 := by
      unfold sgn at h
      split at h <;> omega
    omega
  · cases h
theorem quo_z : floatBits .quo .f64 4607182418800017408 0 = some 9218868437227405312 := by decide +kernel
theorem quo_nz : floatBits .quo .f64 4607182418800017408 9223372036854775808 = some 18442240474082181120 := by decide +kernel
theorem ord_inf : FloatKind.f64.format.order 9218868437227405312 9218868437227405312 = some .eq := by decide +kernel
theorem ord_ninf : FloatKind.f64.format.order 18442240474082181120 18442240474082181120 = some .eq := by decide +kernel
set_option maxRecDepth 100000 in
theorem twin_self (x : Nat) (hx : x < 2 ^ 64) (w : World) : Calls Try.prog 14 #[.float .f64 x, .float .f64 x] w fun e w' => e = .returned (.bool true) ∧ w = w' := by
  have CN : Hid (∀ w, Calls Try.prog 19 #[.float .f64 x] w fun e w' => e = .returned (.bool (wk x).isNone) ∧ w = w') := fun w => refNan_any x w
  cases kx : wk x with
  | none =>
    rw [kx] at CN
    simp only [Option.isNone_none] at CN
    clear kx hx
    go_enter Try.func14, Try.ntmps14
    go_wp2_with (first | (go_at_call 19; ((with_reducible refine (CN.out _).mono ?_); rintro e w' ⟨rfl, rfl⟩)))
    go_ret
    exact ⟨rfl, rfl⟩
  | some a =>
    rw [kx] at CN
    simp only [Option.isNone_some] at CN
    have h1 := ord_self kx
    by_cases ha : a = 0
    · subst ha
      rcases wk_zeros hx kx with rfl | rfl
      · have h2 := fun (w : World) => run_float_arith (P := Try.prog) w .quo 22 .f64 _ _ _ quo_z
        have h3 := ord_inf
        clear kx hx
        go_enter Try.func14, Try.ntmps14
        go_wp2_with (first | (go_at_call 19; ((with_reducible refine (CN.out _).mono ?_); rintro e w' ⟨rfl, rfl⟩)))
        go_ret
        exact ⟨rfl, rfl⟩
      · have h2 := fun (w : World) => run_float_arith (P := Try.prog) w .quo 22 .f64 _ _ _ quo_nz
        have h3 := ord_ninf
        have h4 : FloatKind.f64.format.order 9223372036854775808 0 = some .eq := by decide +kernel
        simp only [show (2 : Nat) ^ 63 = 9223372036854775808 from rfl] at *
        clear kx hx
        go_enter Try.func14, Try.ntmps14
        go_wp2_with (first | (go_at_call 19; ((with_reducible refine (CN.out _).mono ?_); rintro e w' ⟨rfl, rfl⟩)))
        go_ret
        exact ⟨rfl, rfl⟩
    · have h2 : FloatKind.f64.format.order x 0 = some .lt ∨ FloatKind.f64.format.order x 0 = some .gt := by
        rcases Int.lt_or_lt_of_ne ha with h | h
        · exact .inl (ord_lt kx wk_zero h)
        · exact .inr (ord_gt kx wk_zero h)
      clear kx hx
      rcases h2 with h2 | h2
      all_goals
        go_enter Try.func14, Try.ntmps14
        go_wp2_with (first | (go_at_call 19; ((with_reducible refine (CN.out _).mono ?_); rintro e w' ⟨rfl, rfl⟩)))
        go_ret
        exact ⟨rfl, rfl⟩
end Go.Proofs.Ytmeilhjloeghhaa
