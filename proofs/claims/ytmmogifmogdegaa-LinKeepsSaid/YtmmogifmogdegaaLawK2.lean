/-
  LinKeeps, walked: where something is left.
-/
import Derived.Test.YtmmogifmogdegaaLawK
namespace Go.Proofs.Ytmmogifmogdegaa
open Go.RowKit

set_option maxRecDepth 100000 in
set_option maxHeartbeats 6400000 in
theorem linKeeps_some (va vb vds vp : Value) (rel C : Int) (coef vars zs : List Int) (ds : Ds) (w : World) (h0 : IsAt w va coef) (h1 : IsAt w vb vars) (hd : DsAt w vds ds) (hp : U16At w vp zs) (hz : ∀ z ∈ zs, 0 ≤ z ∧ z ≤ 65535) (hmb : manyB coef vars ds = false) (hck : linChk coef vars rel C ds.length = 0) (hpk : ¬ 100 < zs.length) (r : Ds) (hres : onceL rel C ds (coef.zip vars) = some r) :
    Calls Try.prog 6 #[.agg #[va, vb, .int .i64 rel, .int .i64 C], vds, vp] w fun e w' => e = .returned (.bool true) ∧ Below w.heap.size w w' := by
  obtain ⟨i0, hi, hz0, hz1, hz2⟩ := info_parts Try.infoInt
  have HZ0 : Hid (Below w.heap.size w (w.alloc (.cells #[va, vb, .int .i64 rel, .int .i64 C] 24))) := (Below.refl _ _).alloc (Nat.le_refl _) _
  have HB0 : Hid (BoxL (w.alloc (.cells #[va, vb, .int .i64 rel, .int .i64 C] 24)) w.heap.size [va, vb, .int .i64 rel, .int .i64 C]) := BoxL.mk' _ #[va, vb, .int .i64 rel, .int .i64 C] _
  have CM := Lib.hid (fun W (h : Below w.heap.size w W) => lawMany_c va vb vds rel C coef vars ds W (h0.below h) (h1.below h) (hd.below h))
  have CK1 : Hid (∀ W, Calls Try.prog 8 #[.agg #[.slice none 0 0, .slice none 0 0, .int .i64 1, .int .i64 0], .int .i64 0] W fun e w' => e = .returned (.int .i64 0) ∧ Below W.heap.size W w') := fun W => linCheck_const 1 0 0 W
  have CK2 : Hid (∀ W, Calls Try.prog 8 #[.agg #[.slice none 0 0, .slice none 0 0, .int .i64 0, .int .i64 0], .int .i64 0] W fun e w' => e = .returned (.int .i64 150) ∧ Below W.heap.size W w') := fun W => linCheck_const 0 0 0 W
  have H0 := Lib.hid h0
  have H1 := Lib.hid h1
  have HD := Lib.hid hd
  have HP := Lib.hid hp
  have HZ := Lib.hid hz
  obtain ⟨a0, c0, rfl, _⟩ := IsAt.shape h0
  obtain ⟨a1, c1, rfl, _⟩ := IsAt.shape h1
  obtain ⟨a2, c2, rfl, _⟩ := hd.shape
  obtain ⟨a3, c3, rfl, hpl, hpc⟩ := SlAt.shape hp
  unfold maxLen at hpc
  clear h0 h1 hd hp hz
  have CM1 := Lib.hid (CM.out _ HZ0.out)
  rw [hmb] at CM1
  obtain ⟨hm1, hm2, hm3, hm4⟩ := many_ok hmb
  have CC1 : Hid (∀ W, Below w.heap.size w W → Calls Try.prog 9 #[.agg #[.slice a0 coef.length c0, .slice a1 vars.length c1, .int .i64 rel, .int .i64 C], .int .i64 ds.length] W fun e w' => e = .returned (.int .i64 0) ∧ Below W.heap.size W w') := fun W h => by
    have := refCheck_any _ _ rel C ds.length coef vars W (H0.out.below h) (H1.out.below h) (by omega) (by omega)
    rwa [hck] at this
  obtain ⟨hg, hr, hC, hnz, hnd⟩ := chk_good hck (fun d hd => by have := hm4 d hd; omega)
  clear hck hmb CM
  clear CK1 CK2
  have CO := Lib.hid (fun W (h : Below w.heap.size w W) => once_c _ _ _ rel C coef vars ds W (H0.out.below h) (H1.out.below h) (HD.out.below h) hg hr hC hnz (by omega))
  have CR := Lib.hid (fun W (h : Below w.heap.size w W) => refOnce_c _ _ _ rel C coef vars ds W (H0.out.below h) (H1.out.below h) (HD.out.below h) hg hr hC hnz (by omega) hnd)
  have CY := Lib.hid (fun W (h : Below w.heap.size w W) => says_c _ _ _ rel C coef vars ds W (H0.out.below h) (H1.out.below h) (HD.out.below h) hg hr)
  have CH := Lib.hid (fun vx x W (h : Below w.heap.size w W) h2 hxl hx => holds_c _ _ vx rel C coef vars x ds W (H0.out.below h) (H1.out.below h) h2 hg hxl hx hr)
  have HVN : Hid (∀ p ∈ coef.zip vars, p.2.toNat < ds.length) := fun p hp => by
    have := hg.vars _ (List.of_mem_zip (hp : (p.1, p.2) ∈ coef.zip vars)).2
    omega
  have HKP := Lib.hid (fun x hx hh => once_keeps rel C hr ds x (coef.zip vars) hx HVN.out hh)
  have HSY := Lib.hid (fun x hx => says_sure rel C ds x (coef.zip vars) hx)
  have HVV := Lib.hid (says_vals rel C ds (coef.zip vars))
  have HM4 := Lib.hid hm4
  clear hg hr hC hnz hnd hm4
  generalize hps : coef.zip vars = ps at *
  clear hps
  generalize hsay : saysL rel C ds ps = sy at *
  clear hsay
  have CO1 : Hid (∀ W, Below w.heap.size w W → Calls Try.prog 10 #[.agg #[.slice a0 coef.length c0, .slice a1 vars.length c1, .int .i64 rel, .int .i64 C], .slice a2 ds.length c2] W fun e w' => ∃ ao cap, e = .returned (.tuple #[.slice ao ds.length cap, .bool true]) ∧ DsAt w' (.slice ao ds.length cap) r ∧ Below W.heap.size W w') := fun W h => by
    have := CO.out W h
    rw [hres] at this
    exact this.mono fun _ _ h => by
      have h2 := h.is
      rw [once_len _ _ _ _ _ hres] at h2
      exact h2
  have CR1 : Hid (∀ W, Below w.heap.size w W → Calls Try.prog 14 #[.agg #[.slice a0 coef.length c0, .slice a1 vars.length c1, .int .i64 rel, .int .i64 C], .slice a2 ds.length c2] W fun e w' => ∃ ao cap, e = .returned (.tuple #[.slice ao ds.length cap, .bool true]) ∧ DsAt w' (.slice ao ds.length cap) r ∧ Below W.heap.size W w') := fun W h => by
    have := CR.out W h
    rw [hres] at this
    exact this.mono fun _ _ h => by
      have h2 := h.is
      rw [once_len _ _ _ _ _ hres] at h2
      exact h2
  have HRL := Lib.hid (once_len _ _ _ _ _ hres)
  have HRM : Hid (∀ x : List Int, (∀ j, j < ds.length → memL (norm (ds.getD j [])) (x.getD j 0) = true) → holdsL rel C x ps = true → ∀ j, j < ds.length → memL (r.getD j []) (x.getD j 0) = true) := fun x hx hh => by
    obtain ⟨o, h, _, h2⟩ := HKP.out x hx hh
    rw [hres] at h; cases h; exact h2
  have HRN : Hid (∀ j, (hj : j < r.length) → r[j].length ≤ 4096) := fun j hj => Nat.le_trans (onceL_len rel C ds ps r hres j hj) (by omega)
  clear CO CR HKP hres
  go_enter Try.func6, Try.ntmps6
  go_wp2_with (first
    | (go_at_call 13; (with_reducible refine CM1.out.mono ?_); rintro e W1 ⟨rfl, bb⟩; have B1 := Lib.hid (HZ0.out.trans (bb.mono HZ0.out.size)); have L1 := Lib.hid (HB0.out.below bb (by simp)); obtain ⟨l0, _⟩ := L1.out.get 0 rfl; obtain ⟨l1, _⟩ := L1.out.get 1 rfl; obtain ⟨l2, _⟩ := L1.out.get 2 rfl; obtain ⟨l3, _⟩ := L1.out.get 3 rfl; clear bb)
    | (go_at_call 9; (with_reducible refine (CC1.out _ B1.out).mono ?_); rintro e W2 ⟨rfl, bb⟩; have B2 := Lib.hid (B1.out.trans (bb.mono B1.out.size)); have L2 := Lib.hid (L1.out.below bb (by have := L1.out.lt (by simp); omega)); obtain ⟨m0, _⟩ := L2.out.get 0 rfl; obtain ⟨m1, _⟩ := L2.out.get 1 rfl; obtain ⟨m2, _⟩ := L2.out.get 2 rfl; obtain ⟨m3, _⟩ := L2.out.get 3 rfl; clear bb)
    | (go_at_call 10; (with_reducible refine (CO1.out _ B2.out).mono ?_); rintro e W3 ⟨a5, c5, rfl, r5, bb⟩; have D3 := Lib.hid r5; have B3 := Lib.hid (B2.out.trans (bb.mono B2.out.size)); have L3 := Lib.hid (L2.out.below bb (by have := B2.out.size; have := L2.out.lt (by simp); omega)); obtain ⟨k0, _⟩ := L3.out.get 0 rfl; obtain ⟨k1, _⟩ := L3.out.get 1 rfl; obtain ⟨k2, _⟩ := L3.out.get 2 rfl; obtain ⟨k3, _⟩ := L3.out.get 3 rfl; clear bb r5)
    | (go_at_call 14; (with_reducible refine (CR1.out _ B3.out).mono ?_); rintro e W4 ⟨a6, c6, rfl, r6, bb⟩; have D4 := Lib.hid (D3.out.below bb); have B4 := Lib.hid (B3.out.trans (bb.mono B3.out.size)); have L4 := Lib.hid (L3.out.below bb (by have := L3.out.lt (by simp); omega)); clear bb r6))
  clear l0 l1 l2 l3 m0 m1 m2 m3 k0 k1 k2 k3 B1 B2 B3 L1 L2 L3 CO1 CR1 CM1 CC1 HZ0 HB0
  have hlw := L4.out.lt (by simp)
  have hsw := B4.out.size
  go_loopw [11, 12] (fun o s wr => ∃ xs : List Int, xs.length ≤ ds.length ∧ s = .int .i64 xs.length ∧ wr.ownsRow W4.heap.size 3 1 o xs.length (xs.map (Value.int .i64)) ∧ Hid (Below W4.heap.size W4 wr) ∧ Hid (∀ j, j < xs.length → memL (norm (ds.getD j [])) (xs.getD j 0) = true) ∧ Hid (∀ z ∈ xs, -200 ≤ z ∧ z ≤ 200)) (fun _ s _ => ds.length - (intOf s).toNat)
  case atStart => exact ⟨[], by simp, rfl, World.ownsRow_made W4 #[] 0 (Nat.le_refl _) (by decide) rfl, Lib.hid ((Below.refl _ _).alloc (Nat.le_refl _) _), fun j h => by simp at h, fun z h => by simp at h⟩
  case round =>
    obtain ⟨xs, hxl, rfl, hown, HB, HM, HX⟩ := hrel
    have hle := HB.out.size
    by_cases hlt : xs.length < ds.length
    · obtain ⟨b, off, ao, cap, rfl, q1, q2, _, hc, hrg⟩ := HD.out.get xs.length hlt
      have j1 : (xs.length : Int) < ds.length := by omega
      have hBw : Below w.heap.size w wr := B4.out.trans (HB.out.mono hsw)
      have hgd := getD_at ds xs.length hlt []
      have hdl : ds[xs.length].length ≤ 4096 := by have := HM4.out _ (List.getElem_mem hlt); omega
      have HC0 := Lib.hid hc
      rw [← hBw.cell (p := ⟨b, off + xs.length, none⟩) q2] at hc
      have CS := Lib.hid (refSize_c _ _ wr (hrg.below hBw) hdl)
      have HRG := Lib.hid (hrg.below hBw)
      have hsb := size_bnd ds[xs.length]
      have hpl := fun (q : Int) (g1 : 0 ≤ q) (g2 : q < sizeL (norm ds[xs.length])) => placeS_in (memL ds[xs.length]) q g1 g2
      have HMS : Hid (∀ v, -200 ≤ v → v ≤ 200 → memL ds[xs.length] v = true → (∀ j, j < (xs ++ [v]).length → memL (norm (ds.getD j [])) ((xs ++ [v]).getD j 0) = true) ∧ ∀ z ∈ xs ++ [v], -200 ≤ z ∧ z ≤ 200) := fun v g1 g2 g3 => by
        refine ⟨fun j hj => ?_, fun z hz => ?_⟩
        · rw [List.length_append, List.length_singleton] at hj
          by_cases h : j < xs.length
          · rw [getD_snoc_lt _ _ _ h]; exact HM.out j h
          · obtain rfl : j = xs.length := by omega
            rw [hgd, getD_snoc_at]
            show memL _ v = true
            rw [memL_norm, g3]; simp [inD]; omega
        · rcases List.mem_append.1 hz with h | h
          · exact HX.out z h
          · simp at h; subst h; exact ⟨g1, g2⟩
      have CA : Hid (∀ (q : Int) W, Below wr.heap.size wr W → 0 ≤ q → q < sizeL (norm ds[xs.length]) → Calls Try.prog 18 #[.slice ao ds[xs.length].length cap, .int .i64 q] W fun e w' => (∃ v, e = .returned (.tuple #[.int .i64 v, .bool true]) ∧ -200 ≤ v ∧ v ≤ 200 ∧ memL ds[xs.length] v = true) ∧ W = w') := fun q W h g1 g2 => by
        obtain ⟨v, hv, hv1, hv2, hv3⟩ := hpl q g1 g2
        have ha := refAt_c _ _ q W (HRG.out.below h) hdl (by omega)
        have e : (if q < 0 then none else atL (norm ds[xs.length]) q) = some v := hv
        rw [e] at ha
        exact ha.mono fun e w' ⟨h1, h2⟩ => ⟨⟨v, h1, hv1, hv2, hv3⟩, h2⟩
      clear hrg hpl hgd hdl hBw
      generalize ds[xs.length] = d at *
      generalize sizeL (norm d) = n at *
      obtain ⟨hn1, hn2⟩ := hsb
      by_cases hn0 : n = 0
      · have hz : (n == 0) = true := by simpa using hn0
        clear hn0
        go_wp2_with (go_at_call 17; (with_reducible refine CS.out.mono ?_); rintro e W5 ⟨rfl, bb⟩; have Q5 := Lib.hid (HB.out.trans (bb.mono hle)); clear bb)
        go_ret
        exact ⟨rfl, B4.out.trans (Q5.out.mono hsw)⟩
      · have hz : (n == 0) = false := beqf hn0
        have hnp : 0 < n := by omega
        by_cases hzl : xs.length < zs.length
        · obtain ⟨b3, o3, rfl, q3, q4, x3⟩ := HP.out.get xs.length hzl
          have hzb := HZ.out _ (List.getElem_mem hzl)
          have j2 : (xs.length : Int) < zs.length := by omega
          generalize zs[xs.length] = z at *
          obtain ⟨hzb1, hzb2⟩ := hzb
          have t1 : 0 ≤ z.tmod n := Int.tmod_nonneg _ hzb1
          have t2 : z.tmod n < n := Int.tmod_lt_of_pos z hnp
          generalize hq : z.tmod n = q at *
          go_wp2_with (first
            | (go_at_call 17; (with_reducible refine CS.out.mono ?_); rintro e W5 ⟨rfl, bb⟩; have Q5 := Lib.hid (HB.out.trans (bb.mono hle)); have P5 := Lib.hid bb; have c5 := (Q5.out.cell (p := ⟨b, off + xs.length, none⟩) (by dsimp only; omega)).trans ((B4.out.cell (p := ⟨b, off + xs.length, none⟩) q2).trans HC0.out); have x5 := (Q5.out.cell (p := ⟨b3, o3 + xs.length, none⟩) (by dsimp only; omega)).trans ((B4.out.cell (p := ⟨b3, o3 + xs.length, none⟩) q4).trans x3); have own5 := own_below hown bb; have hs5 := bb.size; clear bb)
            | (go_at_call 18; (with_reducible refine (CA.out q _ P5.out t1 t2).mono ?_); rintro e w' ⟨⟨v, rfl, v1, v2, v3⟩, rfl⟩)
            | (at_builtin; refine wpList_append1 rfl (.tmp 91) (.tmp 93) 22 rfl W4.heap.size 3 i0 (.int .i64 0) 8 Try.underlying22 hi hz0 hz1 hz2 rfl _ _ _ rfl own5 _ rfl rfl (by omega) (by omega) ?_; intro v' w1 ow bw _ _))
          refine ⟨⟨xs ++ [v], by simp; omega, by rw [List.length_append]; go_num, by rw [List.length_append, List.map_append]; exact ow, Lib.hid (Q5.out.trans bw), (HMS.out v v1 v2 v3).1, (HMS.out v v1 v2 v3).2⟩, by simp [intOf]; omega⟩
        · go_wp2_with (first
            | (go_at_call 17; (with_reducible refine CS.out.mono ?_); rintro e W5 ⟨rfl, bb⟩; have Q5 := Lib.hid (HB.out.trans (bb.mono hle)); have P5 := Lib.hid bb; have c5 := (Q5.out.cell (p := ⟨b, off + xs.length, none⟩) (by dsimp only; omega)).trans ((B4.out.cell (p := ⟨b, off + xs.length, none⟩) q2).trans HC0.out); have own5 := own_below hown bb; have hs5 := bb.size; clear bb)
            | (go_at_call 18; (with_reducible refine (CA.out 0 _ P5.out (Int.le_refl _) hnp).mono ?_); rintro e w' ⟨⟨v, rfl, v1, v2, v3⟩, rfl⟩)
            | (at_builtin; refine wpList_append1 rfl (.tmp 91) (.tmp 93) 22 rfl W4.heap.size 3 i0 (.int .i64 0) 8 Try.underlying22 hi hz0 hz1 hz2 rfl _ _ _ rfl own5 _ rfl rfl (by omega) (by omega) ?_; intro v' w1 ow bw _ _))
          refine ⟨⟨xs ++ [v], by simp; omega, by rw [List.length_append]; go_num, by rw [List.length_append, List.map_append]; exact ow, Lib.hid (Q5.out.trans bw), (HMS.out v v1 v2 v3).1, (HMS.out v v1 v2 v3).2⟩, by simp [intOf]; omega⟩
    · have hxe : xs.length = ds.length := by omega
      have HXE := Lib.hid hxe
      have B5 := Lib.hid (B4.out.trans (HB.out.mono hsw))
      obtain ⟨n0, _⟩ := (L4.out.below HB.out hlw).get 0 rfl
      obtain ⟨n1, _⟩ := (L4.out.below HB.out hlw).get 1 rfl
      obtain ⟨n2, _⟩ := (L4.out.below HB.out hlw).get 2 rfl
      obtain ⟨n3, _⟩ := (L4.out.below HB.out hlw).get 3 rfl
      have HPK : Hid (Picks ds xs ps) := fun p hp => HM.out p.2.toNat (by rw [HXE.out]; exact HVN.out p hp)
      have HOW := Lib.hid (SlAt.of_own hown)
      obtain ⟨xa, xc, rfl, _⟩ := HOW.out.shape
      have hs1 := HSY.out xs HPK.out
      have CH1 := Lib.hid (fun W (h : Below wr.heap.size wr W) => CH.out _ xs W (B5.out.trans (h.mono B5.out.size)) (show IsAt W _ xs from SlAt.below HOW.out h) HXE.out HX.out)
      have hsv := HVV.out
      have hrm := HRM.out xs (fun j hj => HM.out j (by rw [HXE.out]; exact hj))
      cases hho : holdsL rel C xs ps with
      | false =>
        rw [hho] at hs1 CH1
        clear hrm hho
        have hs2 : sy < 1 := by
          rcases hsv with h | h | h
          · have := hs1.1 h; cases this
          · omega
          · omega
        clear hs1 hsv hxe
        go_wp2_with (first
          | (go_at_call 16; (with_reducible refine (CY.out _ B5.out).mono ?_); rintro e W6 ⟨rfl, bb⟩; have P6 := Lib.hid bb; obtain ⟨n0, _⟩ := ((L4.out.below HB.out hlw).below bb (by omega)).get 0 rfl; obtain ⟨n1, _⟩ := ((L4.out.below HB.out hlw).below bb (by omega)).get 1 rfl; obtain ⟨n2, _⟩ := ((L4.out.below HB.out hlw).below bb (by omega)).get 2 rfl; obtain ⟨n3, _⟩ := ((L4.out.below HB.out hlw).below bb (by omega)).get 3 rfl; clear bb)
          | (go_at_call 12; (with_reducible refine (CH1.out _ P6.out).mono ?_); rintro e W7 ⟨rfl, bb⟩; have P7 := Lib.hid (P6.out.trans (bb.mono P6.out.size)); clear bb))
        go_ret
        exact ⟨ret_bool (by simp [hs2]), B5.out.trans (P7.out.mono B5.out.size)⟩
      | true =>
        have HRMM := Lib.hid (hrm hho)
        rw [hho] at hs1 CH1
        have hs2 : ¬ sy < 0 := by
          rcases hsv with h | h | h
          · omega
          · omega
          · have := hs1.2 h; cases this
        have hls : ((ds.length : Int) != xs.length) = false := by rw [hxe]; simp
        have hxb : xs.length ≤ 6 := by omega
        clear hs1 hsv hxe hrm hho
        go_wp2_with (first
          | (go_at_call 16; (with_reducible refine (CY.out _ B5.out).mono ?_); rintro e W6 ⟨rfl, bb⟩; have P6 := Lib.hid bb; obtain ⟨n0, _⟩ := ((L4.out.below HB.out hlw).below bb (by omega)).get 0 rfl; obtain ⟨n1, _⟩ := ((L4.out.below HB.out hlw).below bb (by omega)).get 1 rfl; obtain ⟨n2, _⟩ := ((L4.out.below HB.out hlw).below bb (by omega)).get 2 rfl; obtain ⟨n3, _⟩ := ((L4.out.below HB.out hlw).below bb (by omega)).get 3 rfl; clear bb)
          | (go_at_call 12; (with_reducible refine (CH1.out _ P6.out).mono ?_); rintro e W7 ⟨rfl, bb⟩; have P7 := Lib.hid (P6.out.trans (bb.mono P6.out.size)); clear bb))
        have B7 := Lib.hid (B5.out.trans (P7.out.mono B5.out.size))
        have D7 := Lib.hid ((D4.out.below HB.out).below P7.out)
        have X7 := Lib.hid (show IsAt W7 (.slice xa xs.length xc) xs from SlAt.below HOW.out P7.out)
        clear D4 HOW P6 B5 hown n0 n1 n2 n3
        go_loopw [18] (fun s wr => ∃ k : Nat, k ≤ ds.length ∧ s = .int .i64 k ∧ Hid (Below W7.heap.size W7 wr)) (fun s _ => ds.length - (intOf s).toNat)
        case atStart => exact ⟨0, by omega, rfl, Lib.hid (Below.refl _ _)⟩
        case round =>
          obtain ⟨k, hk, rfl, HQ⟩ := hrel
          by_cases hlt : k < ds.length
          · have hkr : k < r.length := by have := HRL.out; omega
            have hkx : k < xs.length := by have := HXE.out; omega
            obtain ⟨b, off, ao, cap, rfl, q1, q2, hjk, hc, hrg⟩ := D7.out.get k hkr
            clear hjk
            obtain ⟨b3, o3, rfl, q3, q4, x3⟩ := X7.out.get k hkx
            have j1 : (k : Int) < ds.length := by omega
            have j2 : (k : Int) < xs.length := by omega
            have hrl := HRN.out k hkr
            have CHs := Lib.hid (fun n => refHas_c _ r[k] xs[k] (wr.drewN n) (SlAt.drewN (RgAt.below hrg HQ.out) n) hrl)
            have hmm := HRMM.out k hlt
            rw [getD_at r k hkr, getD_at xs k hkx] at hmm
            have hxk := HX.out _ (List.getElem_mem hkx)
            have hin : (inD xs[k] && memL r[k] xs[k]) = true := by rw [hmm]; simp [inD]; omega
            rw [hin] at CHs
            clear hmm hin hrg
            generalize r[k] = rk at *
            generalize xs[k] = xk at *
            rw [← HQ.out.cell (p := ⟨b, off + k, none⟩) q2] at hc
            rw [← HQ.out.cell (p := ⟨b3, o3 + k, none⟩) q4] at x3
            go_wp2
            go_quiet ((go_at_call 11; exact quietHere (CHs.out _)))
            go_wp2
            exact ⟨⟨k + 1, by omega, by go_num, Lib.hid (below_drewN HQ.out _)⟩, by simp [intOf]; omega⟩
          · go_wp2
            go_ret
            exact ⟨rfl, B7.out.trans (HQ.out.mono B7.out.size)⟩
theorem linKeeps_any (va vb vds vp : Value) (rel C : Int) (coef vars zs : List Int) (ds : Ds) (w : World) (h0 : IsAt w va coef) (h1 : IsAt w vb vars) (hd : DsAt w vds ds) (hp : U16At w vp zs) (hz : ∀ z ∈ zs, 0 ≤ z ∧ z ≤ 65535) :
    Calls Try.prog 6 #[.agg #[va, vb, .int .i64 rel, .int .i64 C], vds, vp] w fun e w' => e = .returned (.bool true) ∧ Below w.heap.size w w' := by
  by_cases hmb : manyB coef vars ds = false
  · by_cases hck : linChk coef vars rel C ds.length = 0
    · by_cases hpk : 100 < zs.length
      · exact linKeeps_bad va vb vds vp rel C coef vars zs ds w h0 h1 hd hp hz (fun _ _ => hpk)
      · cases hres : onceL rel C ds (coef.zip vars) with
        | none => exact linKeeps_none va vb vds vp rel C coef vars zs ds w h0 h1 hd hp hz hmb hck hpk hres
        | some r => exact linKeeps_some va vb vds vp rel C coef vars zs ds w h0 h1 hd hp hz hmb hck hpk r hres
    · exact linKeeps_bad va vb vds vp rel C coef vars zs ds w h0 h1 hd hp hz (fun _ h => absurd h hck)
  · exact linKeeps_bad va vb vds vp rel C coef vars zs ds w h0 h1 hd hp hz (fun h => absurd h hmb)
end Go.Proofs.Ytmmogifmogdegaa
