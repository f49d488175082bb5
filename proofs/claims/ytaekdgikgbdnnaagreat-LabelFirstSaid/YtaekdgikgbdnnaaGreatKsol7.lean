/-
  What the laws of layer 19 begin with: the bound, the check, all variables, the plain options.
  All variables of a problem; every list of values for which all constraints hold, walked.
  The law's own list of all solutions, walked.
-/
import Derived.Test.YtaekdgikgbdnnaaGreatKsol6
import Derived.Test.YtaekdgikgbdnnaaGreatKflaw1
import Derived.Test.YtaekdgikgbdnnaaGreatKdom3
namespace Go.Proofs.YtaekdgikgbdnnaaGreat
open Go.RowKit

def big19 (d : List Rg) : Bool := decide (4 < d.length) || decide (60 < sizeL (norm d))
def bigP19 (p : PL) : Bool := decide (4 < p.vars.length) || decide (4 < p.coef.length) || decide (5 < p.vs.length)
def prodI : Ds → Int
  | [] => 1
  | d :: D => sizeL (norm d) * prodI D
theorem size_nn (d : List Rg) : 0 ≤ sizeL (norm d) ∧ sizeL (norm d) ≤ 401 := by unfold norm; rw [sizeL_canon]; exact cnt_nonneg _ 401 (-200)
theorem sizeN_eq (d : List Rg) : (sizeN d : Int) = sizeL (norm d) := by
  have h := (cnt_nonneg (memL d) 401 (-200)).1
  unfold sizeN norm
  rw [sizeL_canon, Int.toNat_of_nonneg h]
theorem prodI_eq : ∀ (D : Ds), prodI D = prodN D
  | [] => rfl
  | d :: D => by
    show sizeL (norm d) * prodI D = ((sizeN d * prodN D : Nat) : Int)
    rw [prodI_eq D, Int.natCast_mul, sizeN_eq]
theorem prodI_snoc : ∀ (D : Ds) (d : List Rg), prodI (D ++ [d]) = prodI D * sizeL (norm d)
  | [], d => by simp [prodI]
  | e :: D, d => by
    show sizeL (norm e) * prodI (D ++ [d]) = sizeL (norm e) * prodI D * sizeL (norm d)
    rw [prodI_snoc D d, Int.mul_assoc]
theorem prodI_take (ds : Ds) (k : Nat) (hk : k < ds.length) : prodI (ds.take (k + 1)) = prodI (ds.take k) * sizeL (norm ds[k]) := by
  rw [List.take_succ_eq_append_getElem hk, prodI_snoc]
def many19 (ds : Ds) (ps : List PL) : Bool := decide (4 < ds.length) || decide (5 < ps.length) || ds.any big19 || ps.any bigP19 || decide (200 < prodI ds)
theorem many19_17 {ds : Ds} {ps : List PL} (h : many19 ds ps = false) : many17 ds ps = false ∧ ds.length ≤ 4 ∧ prodI ds ≤ 200 ∧ (∀ d ∈ ds, d.length ≤ 4 ∧ sizeL (norm d) ≤ 60) ∧ ps.length ≤ 5 := by
  simp only [many19, big19, bigP19, Bool.or_eq_false_iff, decide_eq_false_iff_not, List.any_eq_false, decide_eq_true_eq, Bool.or_eq_true, not_or] at h
  obtain ⟨⟨⟨⟨h1, h2⟩, h3⟩, h4⟩, h5⟩ := h
  refine ⟨?_, by omega, by omega, fun d hd => by have := h3 d hd; omega, by omega⟩
  simp only [many17, bigD, bigP, Bool.or_eq_false_iff, decide_eq_false_iff_not, List.any_eq_false, decide_eq_true_eq, Bool.or_eq_true, not_or]
  exact ⟨⟨⟨by omega, by omega⟩, fun d hd => by have := h3 d hd; omega⟩, fun p hp => by have := h4 p hp; omega⟩
theorem mul_bnd19 {a b A B : Int} (h1 : 0 ≤ a) (h2 : a ≤ A) (h3 : 0 ≤ b) (h4 : b ≤ B) : 0 ≤ a * b ∧ a * b ≤ A * B :=
  ⟨Int.mul_nonneg h1 h3, Int.mul_le_mul h2 h4 h3 (Int.le_trans h1 h2)⟩
/-- the product so far, of sets that are small -/
theorem prodI_bnd {ds : Ds} : ∀ (k : Nat), (ds.take k).any big19 = false → 0 ≤ prodI (ds.take k) ∧ prodI (ds.take k) ≤ 60 ^ k
  | 0, _ => by simp [prodI]
  | k + 1, h => by
    by_cases hk : k < ds.length
    · rw [List.take_succ_eq_append_getElem hk, List.any_append, Bool.or_eq_false_iff] at h
      have ih := prodI_bnd (ds := ds) k h.1
      have hs : sizeL (norm ds[k]) ≤ 60 := by
        have := h.2
        simp [big19] at this
        exact this.2
      rw [prodI_take ds k hk]
      have := mul_bnd19 ih.1 ih.2 (size_nn ds[k]).1 hs
      rw [Int.pow_succ]
      exact this
    · rw [List.take_of_length_le (by omega)] at h ⊢
      have ih := prodI_bnd (ds := ds) k (by rw [List.take_of_length_le (by omega)]; exact h)
      rw [List.take_of_length_le (by omega)] at ih
      refine ⟨ih.1, Int.le_trans ih.2 ?_⟩
      rw [Int.pow_succ]
      have h1 : (0 : Int) ≤ 60 ^ k := Int.le_trans ih.1 ih.2
      omega
theorem prod_step {ds : Ds} {k : Nat} (hk : k < ds.length) (h4 : ds.length ≤ 4) (h : (ds.take k).any big19 = false) (hs : sizeL (norm ds[k]) ≤ 60) : 0 ≤ prodI (ds.take k) * sizeL (norm ds[k]) ∧ prodI (ds.take k) * sizeL (norm ds[k]) ≤ 12960000 := by
  obtain ⟨a, b⟩ := prodI_bnd (ds := ds) k h
  have hb : prodI (ds.take k) ≤ 216000 := by
    refine Int.le_trans b ?_
    rcases (show k = 0 ∨ k = 1 ∨ k = 2 ∨ k = 3 by omega) with rfl | rfl | rfl | rfl <;> decide
  have := mul_bnd19 a hb (size_nn ds[k]).1 hs
  omega

set_option maxRecDepth 100000 in
set_option maxHeartbeats 3200000 in
theorem many19_c (vds vps : Value) (ds : Ds) (ps : List PL) (w : World) (hd : DsAt w vds ds) (hp : PsAt w vps ps) :
    Calls Tryz.prog 16 #[.agg #[vds, vps]] w fun e w' => e = .returned (.bool (many19 ds ps)) ∧ Below w.heap.size w w' := by
  obtain ⟨a0, c0, rfl, _⟩ := hd.shape
  obtain ⟨a1, c1, rfl, _⟩ := hp.shape
  have HZ : Hid (Below w.heap.size w (w.alloc (.cells #[.slice a0 ds.length c0, .slice a1 ps.length c1] 25))) := (Below.refl _ _).alloc (Nat.le_refl _) _
  have HB := Lib.hid (BoxL.mk' w #[.slice a0 ds.length c0, .slice a1 ps.length c1] 25)
  have HD := Lib.hid hd
  have HP := Lib.hid hp
  clear hd hp
  unfold many19
  obtain ⟨l0, _⟩ := HB.out.get 0 rfl
  obtain ⟨l1, _⟩ := HB.out.get 1 rfl
  have hbl := HB.out.lt (by simp)
  generalize hW0 : (w.alloc (.cells #[.slice a0 ds.length c0, .slice a1 ps.length c1] 25)) = W0 at *
  have HWE := Lib.hid hW0
  clear hW0
  by_cases g1 : 4 < ds.length
  · go_enter Tryz.func16, Tryz.ntmps16
    go_upto_region 1 with fail
    rw [HWE.out]
    go_wp2
    go_ret
    exact ⟨ret_bool (by simp), HZ.out⟩
  by_cases g2 : 5 < ps.length
  · go_enter Tryz.func16, Tryz.ntmps16
    go_upto_region 1 with fail
    rw [HWE.out]
    go_wp2
    go_ret
    exact ⟨ret_bool (by simp), HZ.out⟩
  rw [show (decide (4 < ds.length) || decide (5 < ps.length) || ds.any big19 || ps.any bigP19 || decide (200 < prodI ds)) = (ds.any big19 || (ps.any bigP19 || decide (200 < prodI ds))) by simp [g1, g2, Bool.or_assoc]]
  have hn4 : ds.length ≤ 4 := by omega
  go_enter Tryz.func16, Tryz.ntmps16
  go_upto_region 1 with fail
  rw [HWE.out]
  go_wp2
  go_loopw [3, 4] (fun nn s wr => ∃ k : Nat, k ≤ ds.length ∧ s = .int .i64 k ∧ nn = .int .i64 (prodI (ds.take k)) ∧ Hid ((ds.take k).any big19 = false) ∧ Hid (Below W0.heap.size W0 wr)) (fun _ s _ => ds.length - (intOf s).toNat)
  case atStart => exact ⟨0, by omega, rfl, rfl, rfl, Lib.hid (Below.refl _ _)⟩
  case round =>
    obtain ⟨k, hk, rfl, rfl, HE, HB2⟩ := hrel
    have hle := HB2.out.size
    have l0' := (HB2.out.cell (p := ⟨w.heap.size, 0, none⟩) hbl).trans l0
    have l1' := (HB2.out.cell (p := ⟨w.heap.size, 1, none⟩) hbl).trans l1
    by_cases hlt : k < ds.length
    · have BI := Lib.hid (HZ.out.trans (HB2.out.mono HZ.out.size))
      obtain ⟨b, off, ao, cap, rfl, q1, q2, _, hc, hrg⟩ := (HD.out.below BI.out).get k hlt
      have j1 : (k : Int) < ds.length := by omega
      have HS : Hid (big19 ds[k] = false → (ds.take (k + 1)).any big19 = false) := fun h => any_snoc hlt HE.out h
      have HT : Hid (big19 ds[k] = true → (ds.any big19 || (ps.any bigP19 || decide (200 < prodI ds))) = true) := fun h => by rw [any_hit hlt h]; rfl
      have CZ0 : ds[k].length ≤ 4096 → Calls Tryz.prog 28 #[.slice ao ds[k].length cap] wr fun e w' => e = .returned (.int .i64 (sizeL (norm ds[k]))) ∧ Below wr.heap.size wr w' := fun h => refSize_c _ _ wr hrg h
      have HPS := Lib.hid (fun h => prod_step hlt hn4 HE.out h)
      have HPT := Lib.hid (prodI_take ds k hlt)
      have hsz := size_nn ds[k]
      clear hrg
      generalize ds[k] = d at *
      by_cases hx : 4 < d.length
      · have HT2 := Lib.hid (HT.out (by unfold big19; simp [hx]))
        clear CZ0
        go_wp2
        go_ret
        exact ⟨ret_bool (by rw [HT2.out]), BI.out⟩
      · have CZ := Lib.hid (CZ0 (by omega))
        clear CZ0
        have hbl2 := Nat.lt_of_lt_of_le hbl hle
        by_cases hy : 60 < sizeL (norm d)
        · have HT2 := Lib.hid (HT.out (by unfold big19; simp [hy]))
          generalize sizeL (norm d) = sz at *
          go_wp2_with (go_at_call 28; (with_reducible refine CZ.out.mono ?_); rintro e W1 ⟨rfl, bb⟩; have B1 := Lib.hid (HB2.out.trans (bb.mono hle)); clear bb)
          go_ret
          exact ⟨ret_bool (by rw [HT2.out]), HZ.out.trans (B1.out.mono HZ.out.size)⟩
        · have HS2 := Lib.hid (HS.out (by unfold big19; simp [hx, hy]))
          have hps := HPS.out (by omega)
          generalize sizeL (norm d) = sz at *
          generalize prodI (ds.take k) = pn at *
          go_wp2_with (go_at_call 28; (with_reducible refine CZ.out.mono ?_); rintro e W1 ⟨rfl, bb⟩; have B1 := Lib.hid (HB2.out.trans (bb.mono hle)); clear bb)
          exact ⟨⟨k + 1, by omega, by go_num, by rw [HPT.out], HS2, B1⟩, by simp [intOf]; omega⟩
    · obtain rfl : k = ds.length := by omega
      have hpb := prodI_bnd (ds := ds) ds.length HE.out
      rw [List.take_length] at HE hpb ⊢
      have HED := Lib.hid HE.out
      have hpb2 : 0 ≤ prodI ds ∧ prodI ds ≤ 12960000 := ⟨hpb.1, Int.le_trans hpb.2 (by
        rcases (show ds.length = 0 ∨ ds.length = 1 ∨ ds.length = 2 ∨ ds.length = 3 ∨ ds.length = 4 by omega) with h | h | h | h | h <;> rw [h] <;> decide)⟩
      clear hpb
      obtain ⟨W2, hW2⟩ : ∃ W2 : World, W2 = wr := ⟨_, rfl⟩
      subst hW2
      clear HE hlt hk hle
      have BI := Lib.hid (HZ.out.trans (HB2.out.mono HZ.out.size))
      have HP2 : Hid (PsAt W2 (.slice a1 ps.length c1) ps) := HP.out.below BI.out
      go_wp2
      go_loop [6] (fun s => ∃ k : Nat, k ≤ ps.length ∧ s = .int .i64 k ∧ Hid ((ps.take k).any bigP19 = false)) (fun s => ps.length - (intOf s).toNat)
      case atStart => exact ⟨0, by omega, rfl, rfl⟩
      case round =>
        obtain ⟨k, hk, rfl, HE⟩ := hrel
        by_cases hlt : k < ps.length
        · obtain ⟨b1, o1, va, vb, vv, rfl, q1, cc, i0, i1, i2⟩ := HP2.out.get k hlt
          have j1 : (k : Int) < ps.length := by omega
          obtain ⟨x0, x1, x2, x3, x4, x5, x6, x7, x8⟩ := cc
          have HS : Hid (bigP19 ps[k] = false → (ps.take (k + 1)).any bigP19 = false) := fun h => any_snoc hlt HE.out h
          have HT : Hid (bigP19 ps[k] = true → (ds.any big19 || (ps.any bigP19 || decide (200 < prodI ds))) = true) := fun h => by rw [any_hit hlt h]; simp
          obtain ⟨b3, n3, rfl, _⟩ := SlAt.shape i0
          obtain ⟨b4, n4, rfl, _⟩ := SlAt.shape i1
          obtain ⟨b5, n5, rfl, _⟩ := SlAt.shape i2
          clear i0 i1 i2
          generalize ps[k] = p at *
          by_cases h1 : 4 < p.vars.length
          · have HT2 := Lib.hid (HT.out (by unfold bigP19; simp [h1]))
            go_wp2
            go_ret
            exact ⟨ret_bool (by rw [HT2.out]), BI.out⟩
          by_cases h2 : 4 < p.coef.length
          · have HT2 := Lib.hid (HT.out (by unfold bigP19; simp [h2]))
            go_wp2
            go_ret
            exact ⟨ret_bool (by rw [HT2.out]), BI.out⟩
          by_cases h3 : 5 < p.vs.length
          · have HT2 := Lib.hid (HT.out (by unfold bigP19; simp [h3]))
            go_wp2
            go_ret
            exact ⟨ret_bool (by rw [HT2.out]), BI.out⟩
          have HS2 := Lib.hid (HS.out (by unfold bigP19; simp [h1, h2, h3]))
          go_wp2
          exact ⟨⟨k + 1, by omega, by go_num, HS2⟩, by simp [intOf]; omega⟩
        · obtain rfl : k = ps.length := by omega
          rw [List.take_length] at HE
          go_wp2
          go_ret
          exact ⟨ret_bool (by rw [HED.out, HE.out]; rfl), BI.out⟩

def right19 (ds : Ds) (ps : List PL) : Bool := !many19 ds ps && decide (fixChk ds.length ps = 0)
theorem right19_17 {ds : Ds} {ps : List PL} (h : right19 ds ps = true) : right17 ds ps = true := by
  unfold right19 at h
  unfold right17
  rw [Bool.and_eq_true, Bool.not_eq_true'] at h
  rw [Bool.and_eq_true, Bool.not_eq_true']
  exact ⟨(many19_17 h.1).1, h.2⟩
set_option maxRecDepth 100000 in
set_option maxHeartbeats 800000 in
theorem right19_c (vds vps : Value) (ds : Ds) (ps : List PL) (w : World) (hd : DsAt w vds ds) (hp : PsAt w vps ps) :
    Calls Tryz.prog 10 #[.agg #[vds, vps]] w fun e w' => e = .returned (.bool (right19 ds ps)) ∧ Below w.heap.size w w' := by
  obtain ⟨a0, c0, rfl, _⟩ := hd.shape
  obtain ⟨a1, c1, rfl, _⟩ := hp.shape
  have HZ : Hid (Below w.heap.size w (w.alloc (.cells #[.slice a0 ds.length c0, .slice a1 ps.length c1] 25))) := (Below.refl _ _).alloc (Nat.le_refl _) _
  have HB := Lib.hid (BoxL.mk' w #[.slice a0 ds.length c0, .slice a1 ps.length c1] 25)
  have CM := Lib.hid (many19_c _ _ ds ps _ (hd.below HZ.out) (hp.below HZ.out))
  have CC : Hid (∀ W, Below w.heap.size w W → many19 ds ps = false → Calls Tryz.prog 24 #[.slice a0 ds.length c0, .slice a1 ps.length c1] W fun e w' => e = .returned (.int .i64 (fixChk ds.length ps)) ∧ Below W.heap.size W w') := fun W h hm => by
    obtain ⟨m1, m2, m3, m4⟩ := many17_ok (many19_17 hm).1
    exact refFixCheck_c _ _ ds ps W (hd.below h) (hp.below h) (fun j hj => by have := m4 _ (List.getElem_mem hj); exact ⟨by omega, by omega, by omega⟩)
  clear hd hp
  unfold right19
  obtain ⟨l0, _⟩ := HB.out.get 0 rfl
  obtain ⟨l1, _⟩ := HB.out.get 1 rfl
  have hbl := HB.out.lt (by simp)
  generalize hW0 : (w.alloc (.cells #[.slice a0 ds.length c0, .slice a1 ps.length c1] 25)) = W0 at *
  have HWE := Lib.hid hW0
  clear hW0
  generalize hm : many19 ds ps = m at *
  clear hm
  generalize hr : fixChk ds.length ps = r at *
  clear hr
  cases m
  · have CC1 : Hid (∀ W, Below w.heap.size w W → Calls Tryz.prog 24 #[.slice a0 ds.length c0, .slice a1 ps.length c1] W fun e w' => e = .returned (.int .i64 r) ∧ Below W.heap.size W w') := fun W h => CC.out W h rfl
    clear CC
    by_cases hr0 : r = 0
    · subst hr0
      go_enter Tryz.func10, Tryz.ntmps10
      go_upto_region 1 with fail
      rw [HWE.out]
      go_wp2_with (first
        | (go_at_call 16; (with_reducible refine CM.out.mono ?_); rintro e W1 ⟨rfl, bb⟩; have B1 := Lib.hid (HZ.out.trans (bb.mono HZ.out.size)); have m0 := (bb.cell (p := ⟨w.heap.size, 0, none⟩) hbl).trans l0; have m1 := (bb.cell (p := ⟨w.heap.size, 1, none⟩) hbl).trans l1; clear bb)
        | (go_at_call 24; (with_reducible refine (CC1.out _ B1.out).mono ?_); rintro e W2 ⟨rfl, bb⟩; have B2 := Lib.hid (B1.out.trans (bb.mono B1.out.size)); clear bb))
      go_ret
      exact ⟨ret_bool (by simp), B2.out⟩
    · have hr1 : (r == 0) = false := beqf hr0
      go_enter Tryz.func10, Tryz.ntmps10
      go_upto_region 1 with fail
      rw [HWE.out]
      go_wp2_with (first
        | (go_at_call 16; (with_reducible refine CM.out.mono ?_); rintro e W1 ⟨rfl, bb⟩; have B1 := Lib.hid (HZ.out.trans (bb.mono HZ.out.size)); have m0 := (bb.cell (p := ⟨w.heap.size, 0, none⟩) hbl).trans l0; have m1 := (bb.cell (p := ⟨w.heap.size, 1, none⟩) hbl).trans l1; clear bb)
        | (go_at_call 24; (with_reducible refine (CC1.out _ B1.out).mono ?_); rintro e W2 ⟨rfl, bb⟩; have B2 := Lib.hid (B1.out.trans (bb.mono B1.out.size)); clear bb))
      go_ret
      exact ⟨ret_bool (by simp [hr0]), B2.out⟩
  · go_enter Tryz.func10, Tryz.ntmps10
    go_upto_region 1 with fail
    rw [HWE.out]
    go_wp2_with (go_at_call 16; (with_reducible refine CM.out.mono ?_); rintro e W1 ⟨rfl, bb⟩; have B1 := Lib.hid (HZ.out.trans (bb.mono HZ.out.size)); clear bb)
    go_ret
    exact ⟨ret_bool (by simp), B1.out⟩
end Go.Proofs.YtaekdgikgbdnnaaGreat
namespace Go.Proofs.YtaekdgikgbdnnaaGreat
open Go.RowKit

theorem allV_succ (k : Nat) : allV (k + 1) = allV k ++ [(k : Int)] := by unfold allV; rw [List.range_succ, List.map_append]; rfl
set_option maxRecDepth 100000 in
set_option maxHeartbeats 800000 in
theorem all19_c (vds vps : Value) (ds : Ds) (ps : List PL) (w : World) (hd : DsAt w vds ds) (hp : PsAt w vps ps) (hl : ds.length ≤ 4096) :
    Calls Tryz.prog 14 #[.agg #[vds, vps]] w fun e w' => ∃ ao cap, e = .returned (.slice ao ds.length cap) ∧ IsAt w' (.slice ao ds.length cap) (allV ds.length) ∧ Below w.heap.size w w' := by
  obtain ⟨a0, c0, rfl, _⟩ := hd.shape
  obtain ⟨a1, c1, rfl, _⟩ := hp.shape
  clear hd hp
  obtain ⟨t0, ht, hz0, hz1, hz2⟩ := info_parts Tryz.infoIntR
  have HZ : Hid (Below w.heap.size w (w.alloc (.cells #[.slice a0 ds.length c0, .slice a1 ps.length c1] 25))) := (Below.refl _ _).alloc (Nat.le_refl _) _
  have HB := Lib.hid (BoxL.mk' w #[.slice a0 ds.length c0, .slice a1 ps.length c1] 25)
  obtain ⟨l0, _⟩ := HB.out.get 0 rfl
  have hbl := HB.out.lt (by simp)
  generalize hW0 : (w.alloc (.cells #[.slice a0 ds.length c0, .slice a1 ps.length c1] 25)) = W0 at *
  have HWE := Lib.hid hW0
  clear hW0
  have HM : Hid ((W0.alloc (.cells #[] 3)).ownsRow W0.heap.size 3 1 (.slice (some ⟨W0.heap.size, 0, none⟩) 0 0) 0 []) := World.ownsRow_made W0 #[] 0 (Nat.le_refl _) (by decide) rfl
  have HMB : Hid (Below W0.heap.size W0 (W0.alloc (.cells #[] 3))) := (Below.refl _ _).alloc (Nat.le_refl _) _
  obtain ⟨H0, hH0⟩ : ∃ H0, H0 = W0.heap.size := ⟨_, rfl⟩
  have HH := Lib.hid hH0.symm
  rw [← hH0] at HM HMB
  clear hH0
  go_enter Tryz.func14, Tryz.ntmps14
  go_upto_region 1 with fail
  rw [HWE.out]
  go_wp2
  rw [HH.out]
  go_loopw [3, 4] (fun ov s wr => ∃ (k g cap : Nat), k ≤ ds.length ∧ s = .int .i64 k ∧ ov = .slice (some ⟨g, 0, none⟩) k cap ∧ Hid (wr.ownsRow H0 3 1 (.slice (some ⟨g, 0, none⟩) k cap) k ((allV k).map (Value.int .i64))) ∧ Hid (Below H0 W0 wr)) (fun _ s _ => ds.length - (intOf s).toNat)
  case atStart => exact ⟨0, H0, 0, by omega, rfl, rfl, HM, HMB⟩
  case round =>
    clear HM HMB
    obtain ⟨k, g, cap, hk, rfl, rfl, HO, HB2⟩ := hrel
    have hle := HB2.out.size
    have hHH := HH.out
    have l0' := (HB2.out.cell (p := ⟨w.heap.size, 0, none⟩) (by dsimp only; omega)).trans l0
    by_cases hlt : k < ds.length
    · have j1 : (k : Int) < ds.length := by omega
      have hown := HO.out
      go_wp2_with (at_builtin; refine wpList_append1L rfl (.tmp 13) (.tmp 15) 26 rfl H0 3 t0 (.int .i64 0) 8 Tryz.underlying26 ht hz0 hz1 hz2 rfl _ _ _ rfl hown _ rfl rfl (by omega) (by omega) ?_; intro g2 cap2 w1 ow2 bw2 kw2 gw2)
      refine ⟨⟨k + 1, g2, cap2, by omega, by go_num, rfl, ?_, Lib.hid (HB2.out.trans bw2)⟩, by simp [intOf]; omega⟩
      rw [allV_succ, List.map_append]
      exact Lib.hid ow2
    · obtain rfl : k = ds.length := by omega
      go_wp2
      go_ret
      exact ⟨_, _, rfl, by
        have := SlAt.of_own HO.out
        show SlAt _ _ _ _ _
        rw [allV_len]; exact this, HZ.out.trans (HB2.out.mono (by have := HZ.out.size; omega))⟩

/-! ### every list of values -/
def yL (X : List (List Int)) (vs : List Int) (j n : Nat) : List (List Int) := (X.take j).flatMap (fun x => vs.map (fun v => x ++ [v])) ++ (vs.take n).map (fun v => X.getD j [] ++ [v])
theorem yL_next (X : List (List Int)) (vs : List Int) (j n : Nat) (hn : n < vs.length) : yL X vs j (n + 1) = yL X vs j n ++ [X.getD j [] ++ [vs[n]]] := by
  unfold yL
  rw [List.take_succ_eq_append_getElem hn, List.map_append, List.append_assoc]; rfl
theorem yL_row (X : List (List Int)) (vs : List Int) (j : Nat) (hj : j < X.length) : yL X vs j vs.length = yL X vs (j + 1) 0 := by
  unfold yL
  rw [List.take_succ_eq_append_getElem hj, List.flatMap_append, List.take_length, List.getD_eq_getElem?_getD, List.getElem?_eq_getElem hj]
  simp
theorem yL_all (X : List (List Int)) (d : List Rg) : yL X (valsL d) X.length 0 = prodStep X d := by
  unfold yL prodStep
  simp
theorem flat_len {α β : Type} (f : α → List β) (n : Nat) (h : ∀ x, (f x).length = n) : ∀ X : List α, (X.flatMap f).length = X.length * n
  | [] => by simp
  | x :: X => by rw [List.flatMap_cons, List.length_append, h, flat_len f n h X, List.length_cons, Nat.succ_mul]; omega
theorem yL_len (X : List (List Int)) (vs : List Int) (j n : Nat) (hj : j < X.length) : (yL X vs j n).length ≤ X.length * vs.length := by
  unfold yL
  rw [List.length_append, flat_len _ vs.length (fun x => by simp), List.length_map, List.length_take, List.length_take]
  have h1 : min j X.length = j := by omega
  rw [h1]
  have h2 : (j + 1) * vs.length ≤ X.length * vs.length := Nat.mul_le_mul_right _ (by omega)
  rw [Nat.succ_mul] at h2
  omega
theorem prodL_card (D : Ds) : (prodL D).length = prodN D := by
  have h : ∀ n (D : Ds), D.length = n → ((prodL D).length : Int) = prodI D := by
    intro n
    induction n with
    | zero => intro D h; obtain rfl := List.eq_nil_of_length_eq_zero h; rfl
    | succ n ih =>
      intro D h
      have hne : D ≠ [] := by rintro rfl; simp at h
      obtain ⟨E, d, rfl⟩ : ∃ E d, D = E ++ [d] := ⟨D.dropLast, D.getLast hne, (List.dropLast_concat_getLast hne).symm⟩
      rw [prodL_snoc, prodI_snoc, ← ih E (by simpa using h)]
      unfold prodStep
      rw [flat_len _ (valsL d).length (fun x => by simp), Int.natCast_mul, valsL_len]
  have := h _ D rfl
  rw [prodI_eq] at this
  omega
theorem emptyBlk {W : World} {B e g n : Nat} {xs : List Value} (h : W.ownsRow B e 1 (.slice (some ⟨g, 0, none⟩) n 0) n xs) (o : Nat) : W.cell? ⟨g, o, none⟩ = none := by
  rcases h.2 with ⟨h0, _⟩ | ⟨g', cap', cur, he, _, hg, _, _, hs, _⟩
  · cases h0
  · simp only [Value.slice.injEq, Option.some.injEq, Addr.mk.injEq, and_true, true_and] at he
    obtain ⟨rfl, rfl⟩ := he
    have hs0 : cur.size = 0 := by omega
    have : cur = #[] := Array.eq_empty_of_size_eq_zero hs0
    subst this
    simp [World.cell?, hg]
theorem SlAt.notEmpty {w : World} {k : Nat} {v : Value} {n : Nat} {xs : List Value} (h : SlAt w k v n xs) (hp : 0 < n * k) {g : Nat} (hg : ∀ o, w.cell? ⟨g, o, none⟩ = none) : v.ownBlock ≠ some g := fun e => by
  obtain ⟨h1, ao, cap, rfl, h2, h3, h5, h4⟩ := h
  obtain ⟨b, off, rfl, hlt, hc⟩ := h4 hp
  have : b = g := by simpa [Value.ownBlock] using e
  subst this
  have h0 := hc 0 hp
  rw [hg, List.getElem?_eq_getElem (by omega)] at h0
  cases h0
/-- a list of lists stays where only an empty block is written, and new ones -/
theorem LsAt.stay {W W' : World} {v : Value} {L : List (List Int)} {g : Nat} (h : LsAt W v L) (hg : ∀ o, W.cell? ⟨g, o, none⟩ = none) (hs : W.heap.size ≤ W'.heap.size) (hb : ∀ b, b < W.heap.size → b ≠ g → W'.heap[b]? = W.heap[b]?) : LsAt W' v L := by
  obtain ⟨us, h1, h2, h3⟩ := h
  exact ⟨us, h1, h2.ownP hs (fun hp b hb' e => hb b hb' (fun e' => h2.notEmpty hp hg (e' ▸ e))), fun j hj => by
    obtain ⟨u, a, b⟩ := h3 j hj
    exact ⟨u, a, SlAt.ownP b hs (fun hp b' hb' e => hb b' hb' (fun e' => SlAt.notEmpty b hp hg (e' ▸ e)))⟩⟩
end Go.Proofs.YtaekdgikgbdnnaaGreat
namespace Go.Proofs.YtaekdgikgbdnnaaGreat
open Go.RowKit

def RetLs (L : List (List Int)) (w : World) (e : Ending) (w' : World) : Prop := ∃ ao cap, e = .returned (.slice ao L.length cap) ∧ LsAt w' (.slice ao L.length cap) L ∧ Below w.heap.size w w'
theorem filter_snoc {α : Type} {l : List α} {f : α → Bool} {k : Nat} (hk : k < l.length) : (l.take (k + 1)).filter f = (l.take k).filter f ++ (if f l[k] = true then [l[k]] else []) := by
  rw [List.take_succ_eq_append_getElem hk, List.filter_append]
  congr 1
  by_cases h : f l[k] = true
  · simp [h]
  · simp [h]
theorem vals_get (d : List Rg) (n : Nat) (hn : n < (valsL d).length) : atV (if (n : Int) < 0 then none else atL (norm d) n) = .tuple #[.int .i64 (valsL d)[n], .bool true] := by
  rw [if_neg (by omega), valsL_at, List.getElem?_eq_getElem hn]
  rfl

set_option maxRecDepth 1000000 in
set_option maxHeartbeats 6400000 in
theorem every_c (vds vps : Value) (ds : Ds) (ps : List PL) (w : World) (hd : DsAt w vds ds) (hp : PsAt w vps ps) (hr : right19 ds ps = true) (hsz : prodI ds ≤ 200) (h4 : ds.length ≤ 4) (hsm : ∀ d ∈ ds, d.length ≤ 4 ∧ sizeL (norm d) ≤ 60) :
    Calls Tryz.prog 15 #[.agg #[vds, vps]] w (RetLs (everyL ds ps) w) := by
  obtain ⟨a0, c0, rfl, _⟩ := hd.shape
  obtain ⟨a1, c1, rfl, _⟩ := hp.shape
  obtain ⟨t0, ht, hz0, hz1, hz2⟩ := info_parts Tryz.infoIntR
  obtain ⟨t1, hti, hy0, hy1, hy2⟩ := info_parts Tryz.infoInts
  have HZ : Hid (Below w.heap.size w (w.alloc (.cells #[.slice a0 ds.length c0, .slice a1 ps.length c1] 25))) := (Below.refl _ _).alloc (Nat.le_refl _) _
  have HB := Lib.hid (BoxL.mk' w #[.slice a0 ds.length c0, .slice a1 ps.length c1] 25)
  have HD := Lib.hid hd
  have HP := Lib.hid hp
  have HIN := Lib.hid (right17_in (right19_17 hr))
  have HSM := Lib.hid hsm
  obtain ⟨l0, _⟩ := HB.out.get 0 rfl
  obtain ⟨l1, _⟩ := HB.out.get 1 rfl
  have hbl := HB.out.lt (by simp)
  clear hd hp hr hsm
  obtain ⟨W0, hW0⟩ : ∃ W0, W0 = (w.alloc (.cells #[.slice a0 ds.length c0, .slice a1 ps.length c1] 25)) := ⟨_, rfl⟩
  rw [← hW0] at l0 l1 hbl HZ
  have HWE := Lib.hid hW0.symm
  clear HB hW0
  -- what lies ahead of the loops
  obtain ⟨W1, hW1⟩ : ∃ W1, W1 = ((W0.alloc (.cells #[] 26)).alloc (.cells #[] 3)).alloc (.cells #[.slice (some ⟨W0.heap.size + 1, 0, none⟩) 0 0] 26) := ⟨_, rfl⟩
  have hB1 : Below W0.heap.size W0 W1 := by rw [hW1]; exact (((Below.refl _ W0).alloc (Nat.le_refl _) _).alloc (by simp) _).alloc (by simp; omega) _
  have hs1 : W1.heap.size = W0.heap.size + 3 := by rw [hW1]; simp
  have hO1 : W1.ownsRow W0.heap.size 26 1 (.slice (some ⟨W0.heap.size, 0, none⟩) 0 0) 0 [] := by
    have h := World.ownsRow_made (base := W0.heap.size) W0 #[] 0 (e := 26) (size := 1) (Nat.le_refl _) (by decide) rfl
    rw [hW1]
    exact own_below h (((Below.refl _ _).alloc (Nat.le_refl _) _).alloc (by simp) _)
  have hX1 : LsAt W1 (.slice (some ⟨W0.heap.size + 1 + 1, 0, none⟩) 1 1) (prodL []) := by
    refine ⟨[.slice (some ⟨W0.heap.size + 1, 0, none⟩) 0 0], rfl, ?_, fun j hj => ?_⟩
    · have h := World.ownsRow_lit (base := 0) ((W0.alloc (.cells #[] 26)).alloc (.cells #[] 3)) #[.slice (some ⟨W0.heap.size + 1, 0, none⟩) 0 0] 1 (e := 26) (size := 1) (Nat.zero_le _) (by decide) rfl
      rw [show ((W0.alloc (.cells #[] 26)).alloc (.cells #[] 3)).heap.size = W0.heap.size + 2 by simp, ← hW1] at h
      exact SlAt.of_own h
    · obtain rfl : j = 0 := by simpa [prodL] using hj
      refine ⟨_, rfl, ?_⟩
      show SlAt _ _ _ _ _
      exact ⟨rfl, some ⟨W0.heap.size + 1, 0, none⟩, 0, rfl, Nat.le_refl _, by decide, fun e => rfl, fun hp => by simp [prodL] at hp⟩
  have HB1 := Lib.hid hB1
  have HS1 := Lib.hid hs1
  have HO1 := Lib.hid hO1
  have HX1 := Lib.hid hX1
  have HW1 := Lib.hid hW1.symm
  clear hB1 hO1 hX1 hW1 hs1
  obtain ⟨G0, hG0⟩ : ∃ G0, G0 = W0.heap.size := ⟨_, rfl⟩
  have HG := Lib.hid hG0.symm
  go_enter Tryz.func15, Tryz.ntmps15
  go_upto_region 1 with fail
  rw [HWE.out]
  go_upto_region 3 with fail
  rw [HW1.out]
  have hs1 := HS1.out
  go_wp2
  go_loopw [4, 5] (fun xv s wr => ∃ (k : Nat) (a : Option Addr) (c : Nat), k ≤ ds.length ∧ s = .int .i64 k ∧ xv = .slice a (prodL (ds.take k)).length c ∧ Hid (LsAt wr (.slice a (prodL (ds.take k)).length c) (prodL (ds.take k))) ∧ Hid (Below W1.heap.size W1 wr)) (fun _ s _ => ds.length - (intOf s).toNat)
  case atStart => exact ⟨0, some ⟨W0.heap.size + 1 + 1, 0, none⟩, 1, by omega, rfl, rfl, HX1, Lib.hid (Below.refl _ _)⟩
  case round =>
    obtain ⟨k, a, c, hk, rfl, rfl, HX, HB2⟩ := hrel
    have B0 : Hid (Below W0.heap.size W0 wr) := HB1.out.trans (HB2.out.mono HB1.out.size)
    have BI : Hid (Below w.heap.size w wr) := HZ.out.trans (B0.out.mono HZ.out.size)
    have hXn : (prodL (ds.take k)).length ≤ 12960000 := by
      rw [prodL_card]
      have h : ((prodN (ds.take k) : Nat) : Int) ≤ 12960000 := by
        rw [← prodI_eq]
        refine Int.le_trans (prodI_bnd (ds := ds) k (by
          rw [List.any_eq_false]
          intro d hd
          have := HSM.out d (List.mem_of_mem_take hd)
          simp [big19]; omega)).2 ?_
        rcases (show k = 0 ∨ k = 1 ∨ k = 2 ∨ k = 3 ∨ k = 4 by omega) with rfl | rfl | rfl | rfl | rfl <;> decide
      omega
    have l0' := (B0.out.cell (p := ⟨w.heap.size, 0, none⟩) hbl).trans l0
    by_cases hlt : k < ds.length
    · obtain ⟨b, off, ao, cap, rfl, q1, q2, hq, hc, hrg⟩ := (HD.out.below BI.out).get k hlt
      clear hq
      have j1 : (k : Int) < ds.length := by omega
      have HXS : Hid (prodL (ds.take (k + 1)) = prodStep (prodL (ds.take k)) ds[k]) := by
        show _ = _
        rw [List.take_succ_eq_append_getElem hlt, prodL_snoc]
      have hsmd := HSM.out _ (List.getElem_mem hlt)
      have hvl : ((valsL ds[k]).length : Int) ≤ 60 := by rw [valsL_len]; exact hsmd.2
      have HVG := Lib.hid (vals_get ds[k])
      have HXL : Hid (∀ x ∈ prodL (ds.take k), x.length ≤ 4) := fun x hx => by rw [prodL_len _ (ds.take k) rfl x hx, List.length_take]; omega
      have HYA := Lib.hid (yL_all (prodL (ds.take k)) ds[k])
      have CZ : Hid (∀ W, Below wr.heap.size wr W → Calls Tryz.prog 28 #[.slice ao ds[k].length cap] W fun e w' => e = .returned (.int .i64 ((valsL ds[k]).length : Int)) ∧ Below W.heap.size W w') := fun W h => by
        rw [valsL_len]; exact refSize_c _ _ W (hrg.below h) (by omega)
      have CT : Hid (∀ (n : Nat) W, n < (valsL ds[k]).length → Below wr.heap.size wr W → Calls Tryz.prog 29 #[.slice ao ds[k].length cap, .int .i64 n] W fun e w' => e = .returned (atV (if (n : Int) < 0 then none else atL (norm ds[k]) n)) ∧ W = w') := fun n W hn h => refAt_c _ _ n W (hrg.below h) (by omega) (by omega)
      clear hrg hsmd
      obtain ⟨W2, hW2⟩ : ∃ W2 : World, W2 = wr := ⟨_, rfl⟩
      subst hW2
      generalize prodL (ds.take k) = X at *
      generalize valsL ds[k] = vs at *
      generalize ds[k] = d at *
      have HYN := Lib.hid (yL_next X vs)
      have HYR := Lib.hid (yL_row X vs)
      have HYL : Hid (∀ j n, j < X.length → (yL X vs j n).length ≤ 777600000) := fun j n hj => by
        have h1 := yL_len X vs j n hj
        have h2 : X.length * vs.length ≤ 12960000 * 60 := Nat.mul_le_mul hXn (by omega)
        omega
      have HY0 : Hid (LsApp (W2.alloc (.cells #[] 26)) W2.heap.size (.slice (some ⟨W2.heap.size, 0, none⟩) 0 0) (yL X vs 0 0) []) := LsApp.nil (World.ownsRow_made W2 #[] 0 (Nat.le_refl _) (by decide) rfl)
      have HYB : Hid (Below W2.heap.size W2 (W2.alloc (.cells #[] 26))) := (Below.refl _ _).alloc (Nat.le_refl _) _
      obtain ⟨H2, hH2⟩ : ∃ H2, H2 = W2.heap.size := ⟨_, rfl⟩
      have HH := Lib.hid hH2.symm
      rw [← hH2] at HY0 HYB
      have hb2 : Hid (b < H2 ∧ w.heap.size < H2) := ⟨by rw [hH2]; exact World.block_lt_of_cell? W2 ⟨b, off + k, none⟩ hc, by have := B0.out.size; omega⟩
      clear hH2
      go_wp2
      rw [HH.out]
      go_loopw [6, 7] (fun yv s wr => ∃ (j g cy : Nat) (us : List Value), j ≤ X.length ∧ s = .int .i64 j ∧ yv = .slice (some ⟨g, 0, none⟩) (yL X vs j 0).length cy ∧ Hid (LsApp wr H2 (.slice (some ⟨g, 0, none⟩) (yL X vs j 0).length cy) (yL X vs j 0) us) ∧ Hid (Below H2 W2 wr)) (fun _ s _ => X.length - (intOf s).toNat)
      case atStart => exact ⟨0, H2, 0, [], by omega, rfl, rfl, HY0, HYB⟩
      case round =>
        clear HY0 HYB
        obtain ⟨j, g, cy, us, hj, rfl, rfl, HY, HB3⟩ := hrel
        by_cases hjl : j < X.length
        · have j2 : (j : Int) < X.length := by omega
          go_wp2
          go_loopw [6, 8] (fun yv s wr => ∃ (n g cy : Nat) (us : List Value), n ≤ vs.length ∧ s = .int .i64 n ∧ yv = .slice (some ⟨g, 0, none⟩) (yL X vs j n).length cy ∧ Hid (LsApp wr H2 (.slice (some ⟨g, 0, none⟩) (yL X vs j n).length cy) (yL X vs j n) us) ∧ Hid (Below H2 W2 wr)) (fun _ s _ => vs.length - (intOf s).toNat)
          case atStart => exact ⟨0, g, cy, us, by omega, rfl, rfl, HY, HB3⟩
          case round =>
            clear HY HB3
            obtain ⟨n, g, cy, us, hn, rfl, rfl, HY, HB3⟩ := hrel
            have B3 : Hid (Below W2.heap.size W2 wr) := by show Below _ _ _; rw [HH.out]; exact HB3.out
            have m0 := (HB3.out.cell (p := ⟨w.heap.size, 0, none⟩) hb2.out.2).trans l0'
            have mc := (HB3.out.cell (p := ⟨b, off + k, none⟩) hb2.out.1).trans hc
            have CZ1 := Lib.hid (CZ.out wr B3.out)
            by_cases hnl : n < vs.length
            · have j3 : (n : Int) < vs.length := by omega
              have hwr2 : H2 ≤ wr.heap.size := by have := HB3.out.size; have := HH.out; omega
              have hvg := HVG.out n hnl
              obtain ⟨v, hv⟩ : ∃ v, v = vs[n] := ⟨_, rfl⟩
              rw [← hv] at hvg
              have CT1 : Hid (∀ W, Below W2.heap.size W2 W → Calls Tryz.prog 29 #[.slice ao d.length cap, .int .i64 n] W fun e w' => e = .returned (.tuple #[.int .i64 v, .bool true]) ∧ W = w') := fun W h => by
                have := CT.out n W hnl h
                rwa [hvg] at this
              obtain ⟨bx, ox, ax, cx, hax, _, qx2, hcx, ix⟩ := HX.out.get j hjl
              subst hax
              have hxl := HXL.out _ (List.getElem_mem hjl)
              have HYN2 : Hid (yL X vs j (n + 1) = yL X vs j n ++ [X[j] ++ [v]]) := by
                have h := HYN.out j n hnl
                rw [← hv, List.getD_eq_getElem?_getD, List.getElem?_eq_getElem hjl] at h
                exact h
              have hyl := HYL.out j n hjl
              have HXC : Hid (∀ W, Below W2.heap.size W2 W → W.cell? ⟨bx, ox + j, none⟩ = some (.slice ax X[j].length cx) ∧ SlAt W 1 (.slice ax X[j].length cx) X[j].length (X[j].map (Value.int .i64))) := fun W h => ⟨(h.cell (p := ⟨bx, ox + j, none⟩) qx2).trans hcx, ix.below h⟩
              clear hvg hcx ix hv hnl
              generalize X[j] = x at *
              go_wp2_with (first
                | (go_at_call 28; (with_reducible refine CZ1.out.mono ?_); rintro e W4 ⟨rfl, b4⟩; have B4 := Lib.hid b4; have P4 := Lib.hid (B3.out.trans (b4.mono B3.out.size)); have m0' := (b4.cell (p := ⟨w.heap.size, 0, none⟩) (by have := hb2.out; dsimp only; omega)).trans m0; have mc' := (b4.cell (p := ⟨b, off + k, none⟩) (by have := hb2.out; dsimp only; omega)).trans mc; have P5 := Lib.hid (P4.out.alloc P4.out.size (.cells #[] 3)); obtain ⟨xc5, ix5⟩ := HXC.out _ P5.out; have IX5 := Lib.hid ix5; have HM5 : Hid ((W4.alloc (.cells #[] 3)).ownsRow W4.heap.size 3 1 (.slice (some ⟨W4.heap.size, 0, none⟩) 0 0) 0 []) := World.ownsRow_made W4 #[] 0 (Nat.le_refl _) (by decide) rfl; have hs4 := b4.size; clear b4 ix5)
                | (go_at_call 29; (with_reducible refine (CT1.out _ P4.out).mono ?_); rintro e w' ⟨rfl, rfl⟩)
                | (at_builtin; refine wpList_append_sl rfl (.tmp 51) (.tmp 55) 26 rfl W4.heap.size 3 t0 (.int .i64 0) 1 8 Tryz.underlying26 ht hz0 hz1 hz2 rfl (by decide) _ 0 [] rfl HM5.out _ x.length _ rfl IX5.out (one_ints x) (by omega) (by simp) ?_; intro v6 w6 o6 b6 _; rw [Nat.zero_add, List.nil_append] at o6; obtain ⟨a6, c6, rfl, _⟩ := (SlAt.of_own o6).shape; have O6 := Lib.hid o6; have B6 : Hid (Below W4.heap.size W4 w6) := (((Below.refl _ W4).alloc (Nat.le_refl _) _).trans b6); have hs6 := B6.out.size; clear o6 b6)
                | (at_builtin; refine wpList_append1L rfl (.tmp 58) (.tmp 60) 26 rfl W4.heap.size 3 t0 (.int .i64 0) 8 Tryz.underlying26 ht hz0 hz1 hz2 rfl _ _ _ rfl O6.out _ rfl rfl (by omega) (by omega) ?_; intro g8 c8 w8 o8 b8 k8 q8; have O8 := Lib.hid o8; have B8 := Lib.hid (B6.out.trans b8); have HY8 := Lib.hid ((HY.out.below B4.out).below B8.out); have hs8 := B8.out.size; clear o8 b8 k8 q8)
                | (at_builtin; refine wpList_append1L rfl (.tmp 57) (.tmp 62) 32 rfl H2 26 t1 (.slice none 0 0) 24 Tryz.underlying32 hti hy0 hy1 hy2 rfl _ _ _ rfl HY8.out.2.1 _ rfl rfl (by omega) (by omega) ?_; intro g9 c9 w9 o9 b9 k9 q9))
              have hyn := HYN2.out
              refine ⟨⟨n + 1, g9, c9, us ++ [.slice (some ⟨g8, 0, none⟩) (x.length + 1) c8], by omega, by go_num, by rw [hyn, List.length_append]; rfl, ?_, Lib.hid ((HB3.out.trans (B4.out.mono hwr2)).trans ((B8.out.mono (by omega)).trans b9))⟩, by simp [intOf]; omega⟩
              have hu : IsAt w8 (.slice (some ⟨g8, 0, none⟩) (x.length + 1) c8) (x ++ [v]) := by
                show SlAt _ _ _ _ _
                rw [List.length_append, List.map_append]
                exact SlAt.of_own O8.out
              have hpush := LsApp.push HY8.out hu (fun _ => apart_made HY.out.2.1 (fun b' e => by
                have h1 : some g8 = some b' := e
                injection h1 with h1
                have := (own_lt O8.out (b := g8) rfl).2
                omega)) o9 k9 b9.size q9
              rw [hyn, List.length_append]
              exact Lib.hid hpush
            · obtain rfl : n = vs.length := by omega
              have hyr := HYR.out j hjl
              go_wp2_with (go_at_call 28; (with_reducible refine CZ1.out.mono ?_); rintro e W4 ⟨rfl, b4⟩; have B4 := Lib.hid b4; clear b4)
              refine ⟨⟨j + 1, g, cy, us, by omega, by go_num, by rw [← hyr], ?_, Lib.hid (HB3.out.trans (B4.out.mono (by have := HB3.out.size; have := HH.out; omega)))⟩, by simp [intOf]; omega⟩
              rw [← hyr]
              exact Lib.hid (HY.out.below B4.out)
        · obtain rfl : j = X.length := by omega
          have hya := HYA.out
          have hxs := HXS.out
          have HY2 := Lib.hid HY.out.at
          clear HY HYN HYR HYL
          go_wp2
          refine ⟨⟨k + 1, some ⟨g, 0, none⟩, cy, by omega, by go_num, by rw [hxs, ← hya], ?_, Lib.hid (HB2.out.trans ?_)⟩, by simp [intOf]; omega⟩
          · rw [hxs, ← hya]; exact HY2
          · have := HB3.out
            rw [← HH.out] at this
            exact this.mono HB2.out.size
    · obtain rfl : k = ds.length := by omega
      rw [List.take_length] at HX hXn ⊢
      have hX200 : (prodL ds).length ≤ 200 := by
        rw [prodL_card]
        have := prodI_eq ds
        omega
      have HHI : Hid (∀ x ∈ prodL ds, HoldIn ps ds x) := fun x hx => by
        have hh := (prodL_mem _ ds rfl x).1 hx
        have hxl := hh.1
        rw [List.length_map] at hxl
        exact ⟨HIN.out.fine, by omega, has_bnd hh⟩
      have hpl : ps.length ≤ 4096 := by have := HIN.out.P; omega
      obtain ⟨W4, hW4⟩ : ∃ W4 : World, W4 = wr := ⟨_, rfl⟩
      subst hW4
      have hO4 := own_below HO1.out HB2.out
      have HEM := Lib.hid (emptyBlk hO4)
      have HA4 : Hid (LsApp W4 W0.heap.size (.slice (some ⟨W0.heap.size, 0, none⟩) 0 0) [] []) := LsApp.nil hO4
      have hs4 : W0.heap.size < W4.heap.size := (own_lt hO4 (b := W0.heap.size) rfl).1
      have HEV : Hid (everyL ds ps = (prodL ds).filter (allHold ps)) := by show _ = _; rfl
      clear hO4 hXn hlt hk
      have hbl0 := B0.out.size
      generalize prodL ds = X at *
      go_wp2
      go_loopw [3, 12] (fun ov s wr => ∃ (k g cy : Nat) (us : List Value), k ≤ X.length ∧ s = .int .i64 k ∧ ov = .slice (some ⟨g, 0, none⟩) ((X.take k).filter (allHold ps)).length cy ∧ Hid (LsApp wr W0.heap.size (.slice (some ⟨g, 0, none⟩) ((X.take k).filter (allHold ps)).length cy) ((X.take k).filter (allHold ps)) us) ∧ Hid (g = W0.heap.size ∨ W4.heap.size ≤ g) ∧ Hid (∀ b, b < W4.heap.size → b ≠ W0.heap.size → wr.heap[b]? = W4.heap[b]?) ∧ Hid (W4.heap.size ≤ wr.heap.size ∧ Below W0.heap.size W0 wr)) (fun _ s _ => X.length - (intOf s).toNat)
      case atStart => exact ⟨0, W0.heap.size, 0, [], by omega, rfl, rfl, HA4, Lib.hid (.inl rfl), Lib.hid (fun _ _ _ => rfl), Lib.hid ⟨Nat.le_refl _, B0.out⟩⟩
      case round =>
        clear HA4
        obtain ⟨k, g, cy, us, hk, rfl, rfl, HA, HG2, HST, HBB⟩ := hrel
        have BI2 : Hid (Below w.heap.size w wr) := HZ.out.trans (HBB.out.2.mono HZ.out.size)
        have m1 := (HBB.out.2.cell (p := ⟨w.heap.size, 1, none⟩) hbl).trans l1
        by_cases hlt : k < X.length
        · have hxw := HX.out.stay HEM.out HBB.out.1 HST.out
          have hx4 := HX.out
          obtain ⟨bx, ox, ax, cx, hax, _, qx2, hcx, ix⟩ := hxw.get k hlt
          subst hax
          obtain ⟨_, _, ax4, cx4, hax4, _, _, hcx4, ix4⟩ := hx4.get k hlt
          have j1 : (k : Int) < X.length := by omega
          simp only [Option.some.injEq, Addr.mk.injEq, and_true] at hax4
          obtain ⟨rfl, rfl⟩ := hax4
          have hxr : bx ≠ W0.heap.size := fun e => by
            have := HEM.out (ox + k)
            rw [← e, hcx4] at this
            cases this
          have hblt : bx < W4.heap.size := World.block_lt_of_cell? W4 ⟨bx, ox + k, none⟩ hcx4
          have hsame := (World.cell?_of_block (a := ⟨bx, ox + k, none⟩) (HST.out bx hblt hxr)).symm.trans hcx
          rw [hcx4] at hsame
          simp only [Option.some.injEq, Value.slice.injEq] at hsame
          obtain ⟨rfl, _, rfl⟩ := hsame
          have HAP : Hid (X[k] ≠ [] → Apart (.slice ax4 X[k].length cx4) (.slice (some ⟨g, 0, none⟩) ((X.take k).filter (allHold ps)).length cy)) := fun hne b e e' => by
            have hp : 0 < X[k].length * 1 := by have := List.length_pos_iff.2 hne; omega
            have h1 : g = b := by simpa [Value.ownBlock] using e'
            subst h1
            rcases HG2.out with h2 | h2
            · exact SlAt.notEmpty ix4 hp HEM.out (h2 ▸ e)
            · have := IsAt.blk ix4 hne g e; omega
          have HI1 := HHI.out _ (List.getElem_mem hlt)
          have HF := Lib.hid (filter_snoc (f := allHold ps) hlt)
          have CH0 : ∀ q : QG wr, Calls Tryz.prog 23 #[.slice a1 ps.length c1, .slice ax4 X[k].length cx4] q.1 fun e w' => e = .returned (.bool (allHold ps X[k])) ∧ Below q.1.heap.size q.1 w' := fun q => refFixHolds_c _ _ ps ds X[k] q.1 (ix.below q.2) ((HP.out.below BI2.out).below q.2) HI1 hpl
          have HIX := Lib.hid ix
          have HCX := Lib.hid hcx
          have hle4 := HBB.out.1
          have y1 := qb_cell hcx
          have y2 := qb_cell m1
          clear hxw hx4 ix ix4 hcx4 hcx HI1 qx2
          generalize X[k] = x at *
          cases hh : allHold ps x with
          | true =>
            rw [hh] at CH0 HF
            have CH := Lib.hid CH0
            clear CH0 hh
            go_upto_region 21 with fail
            refine wp_region_below (by kernel_rfl) (by kernel_rfl) ?_
            repeat (go_big_quiet_step ((go_at_call 23; with_reducible exact qb_call _ (CH.out _))))
            refine wpQuiet_nil ?_
            intro w5 hw5
            have B5 := Lib.hid hw5.below
            have hs5 := hw5.below.size
            have hx5 := B5.out.cell (p := ⟨bx, ox + k, none⟩) (by dsimp only; omega)
            have HA5 := Lib.hid (HA.out.below B5.out)
            have hx5' : w5.cell? ⟨bx, ox + k, none⟩ = some (.slice ax4 x.length cx4) := hx5.trans HCX.out
            have hown5 := HA5.out.2.1
            have hbw5 : W0.heap.size ≤ w5.heap.size := by omega
            have hf := HF.out
            simp only [if_true] at hf
            have hfl : ((X.take k).filter (allHold ps)).length ≤ 200 := Nat.le_trans (List.length_filter_le _ _) (by rw [List.length_take]; omega)
            have HBB5 := HBB.out.2.trans (B5.out.mono (by omega))
            have HBB6 := Lib.hid HBB5
            clear y1 y2 hx5 HBB5
            go_wp2_with (at_builtin; refine wpList_append1L rfl (.tmp 78) (.tmp 83) 32 rfl W0.heap.size 26 t1 (.slice none 0 0) 24 Tryz.underlying32 hti hy0 hy1 hy2 rfl _ _ _ rfl hown5 _ rfl rfl (by omega) hbw5 ?_; intro g9 c9 w9 o9 b9 k9 q9)
            have hpush := LsApp.push HA5.out (HIX.out.below B5.out) HAP.out o9 k9 b9.size q9
            refine ⟨⟨k + 1, g9, c9, us ++ [.slice ax4 x.length cx4], by omega, by go_num, by rw [hf, List.length_append]; rfl, ?_, ?_, Lib.hid (fun b h1 h2 => ?_), Lib.hid ⟨by have := b9.size; omega, HBB6.out.trans b9⟩⟩, by simp [intOf]; omega⟩
            · rw [hf, List.length_append]; exact Lib.hid hpush
            · show g9 = W0.heap.size ∨ W4.heap.size ≤ g9
              rcases q9 with e | e
              · have e2 : some g = some g9 := e
                injection e2 with e2
                subst e2
                exact HG2.out
              · right; omega
            · refine ((k9 b (by omega) (fun e => ?_)).trans (B5.out.block b (by omega))).trans (HST.out b h1 h2)
              have e2 : some g = some b := e
              injection e2 with e2
              subst e2
              rcases HG2.out with h | h <;> omega
          | false =>
            rw [hh] at CH0 HF
            have CH := Lib.hid CH0
            clear CH0 hh
            go_upto_region 21 with fail
            refine wp_region_below (by kernel_rfl) (by kernel_rfl) ?_
            repeat (go_big_quiet_step ((go_at_call 23; with_reducible exact qb_call _ (CH.out _))))
            refine wpQuiet_nil ?_
            intro w5 hw5
            have B5 := Lib.hid hw5.below
            have hf := HF.out
            simp only [Bool.false_eq_true, if_false, List.append_nil] at hf
            clear y1 y2
            go_wp2
            refine ⟨⟨k + 1, g, cy, us, by omega, by go_num, by rw [hf], ?_, HG2, Lib.hid (fun b h1 h2 => (B5.out.block b (by omega)).trans (HST.out b h1 h2)), Lib.hid ⟨by have := B5.out.size; omega, HBB.out.2.trans (B5.out.mono (by omega))⟩⟩, by simp [intOf]; omega⟩
            rw [hf]; exact Lib.hid (HA.out.below B5.out)
        · obtain rfl : k = X.length := by omega
          rw [List.take_length] at HA ⊢
          have HAT := Lib.hid HA.out.at
          go_wp2
          go_ret
          unfold RetLs
          rw [HEV.out]
          exact ⟨_, _, rfl, HAT.out, BI2.out⟩
end Go.Proofs.YtaekdgikgbdnnaaGreat
