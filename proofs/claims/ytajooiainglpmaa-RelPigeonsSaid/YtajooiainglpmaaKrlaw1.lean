/-
  What the laws of layer 16 begin with: the bound, the check.
  The values that the laws of layer 16 pick; Check of constant constraints.
  RelKeeps, walked.
  TWO LISTS THAT GROW SIDE BY SIDE: sets and integers, in blocks of their own; plain, no walk.
-/
import Derived.Test.YtajooiainglpmaaKrel3
import Derived.Test.YtajooiainglpmaaKlin5
import Derived.Test.YtajooiainglpmaaKonce7
import Derived.Test.YtajooiainglpmaaKonce2
import Derived.Test.YtajooiainglpmaaKonce8
import Derived.Test.YtajooiainglpmaaKonce9
import Derived.Test.YtajooiainglpmaaKlin2
import Derived.Test.YtajooiainglpmaaKdom3
namespace Go.Proofs.Ytajooiainglpmaa
open Go.RowKit

def many16 (coef vars vs : List Int) (ds : Ds) : Bool := decide (6 < ds.length) || decide (6 < vars.length) || decide (6 < coef.length) || decide (8 < vs.length) || ds.any fun d => decide (8 < d.length)
theorem many16_ok {coef vars vs : List Int} {ds : Ds} (h : many16 coef vars vs ds = false) : ds.length ≤ 6 ∧ vars.length ≤ 6 ∧ coef.length ≤ 6 ∧ vs.length ≤ 8 ∧ ∀ d ∈ ds, d.length ≤ 8 := by
  simp only [many16, Bool.or_eq_false_iff, decide_eq_false_iff_not, List.any_eq_false, decide_eq_true_eq] at h
  obtain ⟨⟨⟨⟨h1, h2⟩, h3⟩, h5⟩, h4⟩ := h
  exact ⟨by omega, by omega, by omega, by omega, fun d hd => by have := h4 d hd; omega⟩

set_option maxRecDepth 100000 in
set_option maxHeartbeats 800000 in
theorem many16_c (va vb vv vds : Value) (kind rel C x y z : Int) (coef vars vs : List Int) (ds : Ds) (w : World) (h0 : IsAt w va coef) (h1 : IsAt w vb vars) (h2 : IsAt w vv vs) (hd : DsAt w vds ds) :
    Calls Try.prog 27 #[propV kind va vb rel C x y z vv, vds] w fun e w' => e = .returned (.bool (many16 coef vars vs ds)) ∧ Below w.heap.size w w' := by
  obtain ⟨a0, c0, rfl, _⟩ := IsAt.shape h0
  obtain ⟨a1, c1, rfl, _⟩ := IsAt.shape h1
  obtain ⟨a2, c2, rfl, _⟩ := IsAt.shape h2
  obtain ⟨a3, c3, rfl, _⟩ := hd.shape
  have HD := Lib.hid hd
  have HZ : Hid (∀ T, Below w.heap.size w (w.alloc (.cells #[.int .i64 kind, .slice a0 coef.length c0, .slice a1 vars.length c1, .int .i64 rel, .int .i64 C, .int .i64 x, .int .i64 y, .int .i64 z, .slice a2 vs.length c2] T))) := fun T => (Below.refl _ _).alloc (Nat.le_refl _) _
  clear h0 h1 h2 hd
  unfold many16 propV
  by_cases g1 : 6 < ds.length
  · go_enter Try.func27, Try.ntmps27
    go_wp2
    go_ret
    exact ⟨ret_bool (by simp), HZ.out _⟩
  by_cases g2 : 6 < vars.length
  · go_enter Try.func27, Try.ntmps27
    go_wp2
    go_ret
    exact ⟨ret_bool (by simp), HZ.out _⟩
  by_cases g3 : 6 < coef.length
  · go_enter Try.func27, Try.ntmps27
    go_wp2
    go_ret
    exact ⟨ret_bool (by simp), HZ.out _⟩
  by_cases g4 : 8 < vs.length
  · go_enter Try.func27, Try.ntmps27
    go_wp2
    go_ret
    exact ⟨ret_bool (by simp [g4]), HZ.out _⟩
  rw [show (decide (6 < ds.length) || decide (6 < vars.length) || decide (6 < coef.length) || decide (8 < vs.length) || ds.any fun d => decide (8 < d.length)) = ds.any fun d => decide (8 < d.length) by simp [g1, g2, g3, g4]]
  go_enter Try.func27, Try.ntmps27
  go_wp2
  have HZ1 := Lib.hid (HZ.out 34)
  generalize (w.alloc (.cells #[.int .i64 kind, .slice a0 coef.length c0, .slice a1 vars.length c1, .int .i64 rel, .int .i64 C, .int .i64 x, .int .i64 y, .int .i64 z, .slice a2 vs.length c2] 34)) = W at HZ1 ⊢
  go_loop [5] (fun s => ∃ k : Nat, k ≤ ds.length ∧ s = .int .i64 k ∧ Hid (((ds.take k).any fun d => decide (8 < d.length)) = false)) (fun s => ds.length - (intOf s).toNat)
  case atStart => exact ⟨0, by omega, rfl, rfl⟩
  case round =>
    obtain ⟨k, hk, rfl, HE⟩ := hrel
    by_cases hlt : k < ds.length
    · obtain ⟨b, off, ao, cap, rfl, q1, q2, _, hc, _⟩ := HD.out.get k hlt
      have j1 : (k : Int) < ds.length := by omega
      rw [← HZ1.out.cell (p := ⟨b, off + k, none⟩) q2] at hc
      have HS : Hid (((ds.take (k + 1)).any fun d => decide (8 < d.length)) = (((ds.take k).any fun d => decide (8 < d.length)) || decide (8 < ds[k].length))) := by
        show _ = _
        rw [List.take_succ_eq_append_getElem hlt, List.any_append, List.any_cons, List.any_nil, Bool.or_false]
      have HT : Hid (8 < ds[k].length → (ds.any fun d => decide (8 < d.length)) = true) := fun h => by
        rw [List.any_eq_true]; exact ⟨ds[k], List.getElem_mem _, by simpa using h⟩
      generalize ds[k] = d at *
      by_cases hx : 8 < d.length
      · have HT2 := Lib.hid (HT.out hx)
        go_wp2
        go_ret
        exact ⟨ret_bool (by rw [HT2.out]), HZ1.out⟩
      · go_wp2
        exact ⟨⟨k + 1, by omega, by go_num, by show _ = _; rw [HS.out, HE.out]; simp [hx]⟩, by simp [intOf]; omega⟩
    · obtain rfl : k = ds.length := by omega
      rw [List.take_length] at HE
      go_wp2
      go_ret
      exact ⟨ret_bool (by rw [HE.out]), HZ1.out⟩

def right16 (kind rel C x y z : Int) (coef vars vs : List Int) (ds : Ds) : Bool := !many16 coef vars vs ds && decide (relChk kind rel C x y z coef vars vs ds.length = 0)

set_option maxRecDepth 100000 in
set_option maxHeartbeats 800000 in
theorem right16_c (va vb vv vds : Value) (kind rel C x y z : Int) (coef vars vs : List Int) (ds : Ds) (w : World) (h0 : IsAt w va coef) (h1 : IsAt w vb vars) (h2 : IsAt w vv vs) (hd : DsAt w vds ds) :
    Calls Try.prog 12 #[propV kind va vb rel C x y z vv, vds] w fun e w' => e = .returned (.bool (right16 kind rel C x y z coef vars vs ds)) ∧ Below w.heap.size w w' := by
  have CM := Lib.hid (fun W (h : Below w.heap.size w W) => many16_c va vb vv vds kind rel C x y z coef vars vs ds W (h0.below h) (h1.below h) (h2.below h) (hd.below h))
  have CC : Hid (∀ W, Below w.heap.size w W → many16 coef vars vs ds = false → Calls Try.prog 28 #[propV kind va vb rel C x y z vv, .int .i64 ds.length] W fun e w' => e = .returned (.int .i64 (relChk kind rel C x y z coef vars vs ds.length)) ∧ Below W.heap.size W w') := fun W h hm => by
    obtain ⟨m1, m2, m3, m4, _⟩ := many16_ok hm
    exact refRelCheck_c kind va vb vv rel C x y z ds.length coef vars vs W (h0.below h) (h1.below h) (h2.below h) (by omega) (by omega) (by omega)
  obtain ⟨a0, c0, rfl, _⟩ := IsAt.shape h0
  obtain ⟨a1, c1, rfl, _⟩ := IsAt.shape h1
  obtain ⟨a2, c2, rfl, _⟩ := IsAt.shape h2
  obtain ⟨a3, c3, rfl, _⟩ := hd.shape
  have HZ0 : Hid (Below w.heap.size w (w.alloc (.cells #[.int .i64 kind, .slice a0 coef.length c0, .slice a1 vars.length c1, .int .i64 rel, .int .i64 C, .int .i64 x, .int .i64 y, .int .i64 z, .slice a2 vs.length c2] 34))) := (Below.refl _ _).alloc (Nat.le_refl _) _
  have HB0 : Hid (BoxL (w.alloc (.cells #[.int .i64 kind, .slice a0 coef.length c0, .slice a1 vars.length c1, .int .i64 rel, .int .i64 C, .int .i64 x, .int .i64 y, .int .i64 z, .slice a2 vs.length c2] 34)) w.heap.size [.int .i64 kind, .slice a0 coef.length c0, .slice a1 vars.length c1, .int .i64 rel, .int .i64 C, .int .i64 x, .int .i64 y, .int .i64 z, .slice a2 vs.length c2]) := BoxL.mk' _ #[.int .i64 kind, .slice a0 coef.length c0, .slice a1 vars.length c1, .int .i64 rel, .int .i64 C, .int .i64 x, .int .i64 y, .int .i64 z, .slice a2 vs.length c2] _
  clear h0 h1 h2 hd
  unfold propV at CM CC ⊢
  unfold right16
  have CM1 := Lib.hid (CM.out _ HZ0.out)
  clear CM
  generalize hm : many16 coef vars vs ds = m at *
  clear hm
  generalize hr : relChk kind rel C x y z coef vars vs ds.length = r at *
  clear hr
  cases m
  · have CC1 : Hid (∀ W, Below w.heap.size w W → Calls Try.prog 28 #[.agg #[.int .i64 kind, .slice a0 coef.length c0, .slice a1 vars.length c1, .int .i64 rel, .int .i64 C, .int .i64 x, .int .i64 y, .int .i64 z, .slice a2 vs.length c2], .int .i64 ds.length] W fun e w' => e = .returned (.int .i64 r) ∧ Below W.heap.size W w') := fun W h => CC.out W h rfl
    clear CC
    by_cases hr0 : r = 0
    · subst hr0
      go_enter Try.func12, Try.ntmps12
      go_wp2_with (first
        | (go_at_call 27; (with_reducible refine CM1.out.mono ?_); rintro e W1 ⟨rfl, bb⟩; have B1 := Lib.hid (HZ0.out.trans (bb.mono HZ0.out.size)); have L1 := Lib.hid (HB0.out.below bb (by simp)); obtain ⟨l0, _⟩ := L1.out.get 0 rfl; obtain ⟨l1, _⟩ := L1.out.get 1 rfl; obtain ⟨l2, _⟩ := L1.out.get 2 rfl; obtain ⟨l3, _⟩ := L1.out.get 3 rfl; obtain ⟨l4, _⟩ := L1.out.get 4 rfl; obtain ⟨l5, _⟩ := L1.out.get 5 rfl; obtain ⟨l6, _⟩ := L1.out.get 6 rfl; obtain ⟨l7, _⟩ := L1.out.get 7 rfl; obtain ⟨l8, _⟩ := L1.out.get 8 rfl; clear bb)
        | (go_at_call 28; (with_reducible refine (CC1.out _ B1.out).mono ?_); rintro e W2 ⟨rfl, bb⟩; have B2 := Lib.hid (B1.out.trans (bb.mono B1.out.size)); clear bb))
      go_ret
      exact ⟨ret_bool (by simp), B2.out⟩
    · have hr1 : (r == 0) = false := beqf hr0
      go_enter Try.func12, Try.ntmps12
      go_wp2_with (first
        | (go_at_call 27; (with_reducible refine CM1.out.mono ?_); rintro e W1 ⟨rfl, bb⟩; have B1 := Lib.hid (HZ0.out.trans (bb.mono HZ0.out.size)); have L1 := Lib.hid (HB0.out.below bb (by simp)); obtain ⟨l0, _⟩ := L1.out.get 0 rfl; obtain ⟨l1, _⟩ := L1.out.get 1 rfl; obtain ⟨l2, _⟩ := L1.out.get 2 rfl; obtain ⟨l3, _⟩ := L1.out.get 3 rfl; obtain ⟨l4, _⟩ := L1.out.get 4 rfl; obtain ⟨l5, _⟩ := L1.out.get 5 rfl; obtain ⟨l6, _⟩ := L1.out.get 6 rfl; obtain ⟨l7, _⟩ := L1.out.get 7 rfl; obtain ⟨l8, _⟩ := L1.out.get 8 rfl; clear bb)
        | (go_at_call 28; (with_reducible refine (CC1.out _ B1.out).mono ?_); rintro e W2 ⟨rfl, bb⟩; have B2 := Lib.hid (B1.out.trans (bb.mono B1.out.size)); clear bb))
      go_ret
      exact ⟨ret_bool (by simp [hr0]), B2.out⟩
  · go_enter Try.func12, Try.ntmps12
    go_wp2_with (go_at_call 27; (with_reducible refine CM1.out.mono ?_); rintro e W1 ⟨rfl, bb⟩; have B1 := Lib.hid (HZ0.out.trans (bb.mono HZ0.out.size)); clear bb)
    go_ret
    exact ⟨ret_bool (by simp), B1.out⟩
end Go.Proofs.Ytajooiainglpmaa
namespace Go.Proofs.Ytajooiainglpmaa
open Go.RowKit

/-- values of the domains -/
structure PickedX (ds : Ds) (xs : List Int) : Prop where
  len : xs.length = ds.length
  has : ∀ j, j < ds.length → memL (norm (ds.getD j [])) (xs.getD j 0) = true
  bnd : ∀ z ∈ xs, -200 ≤ z ∧ z ≤ 200

set_option maxRecDepth 100000 in
set_option maxHeartbeats 3200000 in
theorem picked_c (vds vp : Value) (zs : List Int) (ds : Ds) (w : World) (hd : DsAt w vds ds) (hp : U16At w vp zs) (hz : ∀ z ∈ zs, 0 ≤ z ∧ z ≤ 65535) (hdl : ds.length ≤ 4096) (_hzl : zs.length ≤ 100) (hdm : ∀ d ∈ ds, d.length ≤ 4096) :
    Calls Try.prog 14 #[vds, vp] w fun e w' => (e = .returned (.tuple #[.slice none 0 0, .bool false]) ∨ ∃ v xs, e = .returned (.tuple #[v, .bool true]) ∧ IsAt w' v xs ∧ PickedX ds xs) ∧ Below w.heap.size w w' := by
  obtain ⟨i0, hi, hz0, hz1, hz2⟩ := info_parts Try.infoInt
  have HD := Lib.hid hd
  have HP := Lib.hid hp
  have HZ := Lib.hid hz
  have HM4 := Lib.hid hdm
  have HR : Hid (Below w.heap.size w w) := Below.refl _ _
  obtain ⟨a2, c2, rfl, _⟩ := hd.shape
  obtain ⟨a3, c3, rfl, hpl, hpc⟩ := SlAt.shape hp
  unfold maxLen at hpc
  clear hd hp hz hdm
  go_enter Try.func14, Try.ntmps14
  go_wp2
  go_loopw [6, 7] (fun o s wr => ∃ xs : List Int, xs.length ≤ ds.length ∧ s = .int .i64 xs.length ∧ wr.ownsRow w.heap.size 3 1 o xs.length (xs.map (Value.int .i64)) ∧ Hid (Below w.heap.size w wr) ∧ Hid (∀ j, j < xs.length → memL (norm (ds.getD j [])) (xs.getD j 0) = true) ∧ Hid (∀ z ∈ xs, -200 ≤ z ∧ z ≤ 200)) (fun _ s _ => ds.length - (intOf s).toNat)
  case atStart => exact ⟨[], by simp, rfl, World.ownsRow_made w #[] 0 (Nat.le_refl _) (by decide) rfl, Lib.hid ((Below.refl _ _).alloc (Nat.le_refl _) _), fun j h => by simp at h, fun z h => by simp at h⟩
  case round =>
    obtain ⟨xs, hxl, rfl, hown, HB, HM, HX⟩ := hrel
    have hle := HB.out.size
    by_cases hlt : xs.length < ds.length
    · obtain ⟨b, off, ao, cap, rfl, q1, q2, _, hc, hrg⟩ := HD.out.get xs.length hlt
      have j1 : (xs.length : Int) < ds.length := by omega
      have hgd := getD_at ds xs.length hlt []
      have hdl : ds[xs.length].length ≤ 4096 := HM4.out _ (List.getElem_mem hlt)
      have HC0 := Lib.hid hc
      rw [← HB.out.cell (p := ⟨b, off + xs.length, none⟩) q2] at hc
      have CS := Lib.hid (refSize_c _ _ wr (hrg.below HB.out) hdl)
      have HRG := Lib.hid (hrg.below HB.out)
      have hsb := size_bnd ds[xs.length]
      have hpl := fun (q : Int) (g1 : 0 ≤ q) (g2 : q < sizeL (norm ds[xs.length])) => placeS_in (memL ds[xs.length]) q g1 g2
      have HMS : Hid (∀ v, -200 ≤ v → v ≤ 200 → memL ds[xs.length] v = true → (∀ j, j < (xs ++ [v]).length → memL (norm (ds.getD j [])) ((xs ++ [v]).getD j 0) = true) ∧ ∀ z ∈ xs ++ [v], -200 ≤ z ∧ z ≤ 200) := fun v g1 g2 g3 => by
        refine ⟨fun j hj => ?_, fun z hz => ?_⟩
        · rw [List.length_append, List.length_singleton] at hj
          by_cases h : j < xs.length
          · rw [getD_snoc_lt _ _ _ h]; exact HM.out j h
          · obtain rfl : j = xs.length := by omega
            rw [hgd, getD_snoc_at]
            show memL _ v = true
            rw [memL_norm, g3]; simp [inD]; omega
        · rcases List.mem_append.1 hz with h | h
          · exact HX.out z h
          · simp at h; subst h; exact ⟨g1, g2⟩
      have CA : Hid (∀ (q : Int) W, Below wr.heap.size wr W → 0 ≤ q → q < sizeL (norm ds[xs.length]) → Calls Try.prog 31 #[.slice ao ds[xs.length].length cap, .int .i64 q] W fun e w' => (∃ v, e = .returned (.tuple #[.int .i64 v, .bool true]) ∧ -200 ≤ v ∧ v ≤ 200 ∧ memL ds[xs.length] v = true) ∧ W = w') := fun q W h g1 g2 => by
        obtain ⟨v, hv, hv1, hv2, hv3⟩ := hpl q g1 g2
        have ha := refAt_c _ _ q W (HRG.out.below h) hdl (by omega)
        have e : (if q < 0 then none else atL (norm ds[xs.length]) q) = some v := hv
        rw [e] at ha
        exact ha.mono fun e w' ⟨h1, h2⟩ => ⟨⟨v, h1, hv1, hv2, hv3⟩, h2⟩
      clear hrg hpl hgd hdl
      generalize ds[xs.length] = d at *
      generalize sizeL (norm d) = n at *
      obtain ⟨hn1, hn2⟩ := hsb
      by_cases hn0 : n = 0
      · have hz : (n == 0) = true := by simpa using hn0
        clear hn0
        go_wp2_with (go_at_call 11; (with_reducible refine CS.out.mono ?_); rintro e W5 ⟨rfl, bb⟩; have Q5 := Lib.hid (HB.out.trans (bb.mono hle)); clear bb)
        go_returns
        exact ⟨.inl rfl, Q5.out⟩
      · have hz : (n == 0) = false := beqf hn0
        have hnp : 0 < n := by omega
        by_cases hzl : xs.length < zs.length
        · obtain ⟨b3, o3, rfl, q3, q4, x3⟩ := HP.out.get xs.length hzl
          have hzb := HZ.out _ (List.getElem_mem hzl)
          have j2 : (xs.length : Int) < zs.length := by omega
          generalize zs[xs.length] = z at *
          obtain ⟨hzb1, hzb2⟩ := hzb
          have t1 : 0 ≤ z.tmod n := Int.tmod_nonneg _ hzb1
          have t2 : z.tmod n < n := Int.tmod_lt_of_pos z hnp
          generalize hq : z.tmod n = q at *
          go_wp2_with (first
            | (go_at_call 11; (with_reducible refine CS.out.mono ?_); rintro e W5 ⟨rfl, bb⟩; have Q5 := Lib.hid (HB.out.trans (bb.mono hle)); have P5 := Lib.hid bb; have c5 := (Q5.out.cell (p := ⟨b, off + xs.length, none⟩) q2).trans HC0.out; have x5 := (Q5.out.cell (p := ⟨b3, o3 + xs.length, none⟩) q4).trans x3; have own5 := own_below hown bb; have hs5 := bb.size; clear bb)
            | (go_at_call 31; (with_reducible refine (CA.out q _ P5.out t1 t2).mono ?_); rintro e w' ⟨⟨v, rfl, v1, v2, v3⟩, rfl⟩)
            | (at_builtin; refine wpList_append1 rfl (.tmp 46) (.tmp 48) 24 rfl w.heap.size 3 i0 (.int .i64 0) 8 Try.underlying24 hi hz0 hz1 hz2 rfl _ _ _ rfl own5 _ rfl rfl (by omega) (by omega) ?_; intro v' w1 ow bw _ _))
          refine ⟨⟨xs ++ [v], by simp; omega, by rw [List.length_append]; go_num, by rw [List.length_append, List.map_append]; exact ow, Lib.hid (Q5.out.trans bw), (HMS.out v v1 v2 v3).1, (HMS.out v v1 v2 v3).2⟩, by simp [intOf]; omega⟩
        · go_wp2_with (first
            | (go_at_call 11; (with_reducible refine CS.out.mono ?_); rintro e W5 ⟨rfl, bb⟩; have Q5 := Lib.hid (HB.out.trans (bb.mono hle)); have P5 := Lib.hid bb; have c5 := (Q5.out.cell (p := ⟨b, off + xs.length, none⟩) q2).trans HC0.out; have own5 := own_below hown bb; have hs5 := bb.size; clear bb)
            | (go_at_call 31; (with_reducible refine (CA.out 0 _ P5.out (Int.le_refl _) hnp).mono ?_); rintro e w' ⟨⟨v, rfl, v1, v2, v3⟩, rfl⟩)
            | (at_builtin; refine wpList_append1 rfl (.tmp 46) (.tmp 48) 24 rfl w.heap.size 3 i0 (.int .i64 0) 8 Try.underlying24 hi hz0 hz1 hz2 rfl _ _ _ rfl own5 _ rfl rfl (by omega) (by omega) ?_; intro v' w1 ow bw _ _))
          refine ⟨⟨xs ++ [v], by simp; omega, by rw [List.length_append]; go_num, by rw [List.length_append, List.map_append]; exact ow, Lib.hid (Q5.out.trans bw), (HMS.out v v1 v2 v3).1, (HMS.out v v1 v2 v3).2⟩, by simp [intOf]; omega⟩
    · have hxe : xs.length = ds.length := by omega
      have HXE := Lib.hid hxe
      have HOW := Lib.hid (SlAt.of_own hown)
      clear hxe hown
      go_wp2
      go_returns
      exact ⟨.inr ⟨_, xs, rfl, HOW.out, HXE.out, fun j hj => HM.out j (by rw [HXE.out]; exact hj), HX.out⟩, HB.out⟩

theorem relCheck_none (kind : Int) (n : Int) (w : World) (r : Int) (hr : relChk kind 0 0 0 0 0 [] [] [] n = r) :
    Calls Try.prog 13 #[propV kind (.slice none 0 0) (.slice none 0 0) 0 0 0 0 0 (.slice none 0 0), .int .i64 n] w fun e w' => e = .returned (.int .i64 r) ∧ Below w.heap.size w w' := by
  have h : ∀ w : World, IsAt w (.slice none 0 0) [] := fun w => SlAt.nil
  rw [← hr]
  exact check_c kind _ _ _ 0 0 0 0 0 n [] [] [] w (h w) (h w) (h w) (by simp) (by simp) (by simp)
theorem relCheck_2 (w : World) : Calls Try.prog 13 #[.agg #[.int .i64 2, .slice none 0 0, .slice none 0 0, .int .i64 0, .int .i64 0, .int .i64 0, .int .i64 0, .int .i64 0, .slice none 0 0], .int .i64 0] w fun e w' => e = .returned (.int .i64 160) ∧ Below w.heap.size w w' := relCheck_none 2 0 w 160 (by decide)
theorem relCheck_3 (w : World) : Calls Try.prog 13 #[.agg #[.int .i64 3, .slice none 0 0, .slice none 0 0, .int .i64 0, .int .i64 0, .int .i64 0, .int .i64 0, .int .i64 0, .slice none 0 0], .int .i64 0] w fun e w' => e = .returned (.int .i64 0) ∧ Below w.heap.size w w' := relCheck_none 3 0 w 0 (by decide)
theorem relCheck_9 (w : World) : Calls Try.prog 13 #[.agg #[.int .i64 9, .slice none 0 0, .slice none 0 0, .int .i64 0, .int .i64 0, .int .i64 0, .int .i64 0, .int .i64 0, .slice none 0 0], .int .i64 0] w fun e w' => e = .returned (.int .i64 1) ∧ Below w.heap.size w w' := relCheck_none 9 0 w 1 (by decide)
end Go.Proofs.Ytajooiainglpmaa
namespace Go.Proofs.Ytajooiainglpmaa
open Go.RowKit

theorem allN_len {r : Ds} (h : AllN r) (j : Nat) (hj : j < r.length) : r[j].length ≤ 4096 := by
  have h1 := h j
  rw [List.getD_eq_getElem?_getD, List.getElem?_eq_getElem hj, Option.getD_some] at h1
  have := norm_of_normal h1
  have h2 := norm_len r[j]
  rw [this] at h2; omega
theorem PL.Fine.toLin {p : PL} {ds : Ds} (h : p.Fine ds) : p.Lin ds.length := ⟨h.good, fun hk => (h.lin hk).2.1⟩
theorem right16_ok {kind rel C x y z : Int} {coef vars vs : List Int} {ds : Ds} (h : right16 kind rel C x y z coef vars vs ds = true) :
    many16 coef vars vs ds = false ∧ relChk kind rel C x y z coef vars vs ds.length = 0 := by
  unfold right16 at h
  simpa using h
theorem PickedX.has' {ds : Ds} {xs : List Int} (h : PickedX ds xs) : Has (ds.map norm) xs := ⟨by rw [h.len]; simp, fun j hj => by
  have hj' : j < ds.length := by simpa using hj
  have := h.has j hj'
  rw [List.getD_eq_getElem?_getD, List.getElem?_eq_getElem hj', Option.getD_some] at this
  rw [List.getD_eq_getElem?_getD (l := ds.map norm), List.getElem?_map, List.getElem?_eq_getElem hj']
  exact this⟩

set_option maxRecDepth 100000 in
set_option maxHeartbeats 1600000 in
theorem relKeeps_bad (va vb vv vds vp : Value) (kind rel C x y z : Int) (coef vars vs zs : List Int) (ds : Ds) (w : World) (h0 : IsAt w va coef) (h1 : IsAt w vb vars) (h2 : IsAt w vv vs) (hd : DsAt w vds ds) (hp : U16At w vp zs) (hn : zs.length ≤ 100 → right16 kind rel C x y z coef vars vs ds = false) :
    Calls Try.prog 4 #[propV kind va vb rel C x y z vv, vds, vp] w fun e w' => e = .returned (.bool true) ∧ Below w.heap.size w w' := by
  have CM := Lib.hid (fun W (h : Below w.heap.size w W) => right16_c va vb vv vds kind rel C x y z coef vars vs ds W (h0.below h) (h1.below h) (h2.below h) (hd.below h))
  have CK3 := Lib.hid relCheck_3
  have CK9 := Lib.hid relCheck_9
  obtain ⟨a0, c0, rfl, _⟩ := IsAt.shape h0
  obtain ⟨a1, c1, rfl, _⟩ := IsAt.shape h1
  obtain ⟨a2, c2, rfl, _⟩ := IsAt.shape h2
  obtain ⟨a3, c3, rfl, _⟩ := hd.shape
  obtain ⟨a4, c4, rfl, hpl, hpc⟩ := SlAt.shape hp
  unfold maxLen at hpc
  have B0 : Hid (Below w.heap.size w (w.alloc (.cells #[.int .i64 kind, .slice a0 coef.length c0, .slice a1 vars.length c1, .int .i64 rel, .int .i64 C, .int .i64 x, .int .i64 y, .int .i64 z, .slice a2 vs.length c2] 34))) := (Below.refl _ _).alloc (Nat.le_refl _) _
  have L0 : Hid (BoxL (w.alloc (.cells #[.int .i64 kind, .slice a0 coef.length c0, .slice a1 vars.length c1, .int .i64 rel, .int .i64 C, .int .i64 x, .int .i64 y, .int .i64 z, .slice a2 vs.length c2] 34)) w.heap.size [.int .i64 kind, .slice a0 coef.length c0, .slice a1 vars.length c1, .int .i64 rel, .int .i64 C, .int .i64 x, .int .i64 y, .int .i64 z, .slice a2 vs.length c2]) := BoxL.mk' _ #[.int .i64 kind, .slice a0 coef.length c0, .slice a1 vars.length c1, .int .i64 rel, .int .i64 C, .int .i64 x, .int .i64 y, .int .i64 z, .slice a2 vs.length c2] _
  clear h0 h1 h2 hd hp
  unfold propV at CM ⊢
  by_cases g : 100 < zs.length
  · clear CM hn
    have j1 : (100 : Int) < zs.length := by omega
    go_enter Try.func4, Try.ntmps4
    go_wp2_with (first
      | (go_at_call 13; (with_reducible refine (CK3.out _).mono ?_); rintro e W1 ⟨rfl, bb⟩; have B1 := Lib.hid (B0.out.trans (bb.mono B0.out.size)); clear bb)
      | (go_at_call 13; (with_reducible refine (CK9.out _).mono ?_); rintro e W2 ⟨rfl, bb⟩; have B2 := Lib.hid (B1.out.trans (bb.mono B1.out.size)); clear bb))
    go_ret
    exact ⟨rfl, B2.out⟩
  · have CM1 := Lib.hid (CM.out _ B0.out)
    rw [hn (by omega)] at CM1
    clear CM hn
    have j1 : ¬ (100 : Int) < zs.length := by omega
    go_enter Try.func4, Try.ntmps4
    go_wp2_with (first
      | (go_at_call 12; (with_reducible refine CM1.out.mono ?_); rintro e W1 ⟨rfl, bb⟩; have B1 := Lib.hid (B0.out.trans (bb.mono B0.out.size)); clear bb)
      | (go_at_call 13; (with_reducible refine (CK3.out _).mono ?_); rintro e W2 ⟨rfl, bb⟩; have B2 := Lib.hid (B1.out.trans (bb.mono B1.out.size)); clear bb)
      | (go_at_call 13; (with_reducible refine (CK9.out _).mono ?_); rintro e W3 ⟨rfl, bb⟩; have B3 := Lib.hid (B2.out.trans (bb.mono B2.out.size)); clear bb))
    go_ret
    exact ⟨rfl, B3.out⟩

set_option maxRecDepth 100000 in
set_option maxHeartbeats 6400000 in
theorem relKeeps_good (va vb vv vds vp : Value) (kind rel C x y z : Int) (coef vars vs zs : List Int) (ds : Ds) (w : World) (h0 : IsAt w va coef) (h1 : IsAt w vb vars) (h2 : IsAt w vv vs) (hd : DsAt w vds ds) (hp : U16At w vp zs) (hz : ∀ z ∈ zs, 0 ≤ z ∧ z ≤ 65535) (hzl : zs.length ≤ 100) (hr : right16 kind rel C x y z coef vars vs ds = true) :
    Calls Try.prog 4 #[propV kind va vb rel C x y z vv, vds, vp] w fun e w' => e = .returned (.bool true) ∧ Below w.heap.size w w' := by
  have CM := Lib.hid (fun W (h : Below w.heap.size w W) => right16_c va vb vv vds kind rel C x y z coef vars vs ds W (h0.below h) (h1.below h) (h2.below h) (hd.below h))
  obtain ⟨hm, hck⟩ := right16_ok hr
  obtain ⟨m1, m2, m3, m4, m5⟩ := many16_ok hm
  have m6 : ∀ d ∈ ds, d.length ≤ 4096 := fun d hd => by have := m5 d hd; omega
  have hf := chk_fine (PL.mk kind rel C x y z coef vars vs) ds hck m6
  have hLin := hf.toLin
  rw [hr] at CM
  have CP := Lib.hid (fun W (h : Below w.heap.size w W) => picked_c vds vp zs ds W (hd.below h) (SlAt.below hp h) hz (by omega) hzl m6)
  have CO := Lib.hid (fun W (h : Below w.heap.size w W) => once_all (PL.mk kind rel C x y z coef vars vs) va vb vv vds ds W (h0.below h) (h1.below h) (h2.below h) (hd.below h) hf (by omega) m6)
  have CH := Lib.hid (fun vx xs W (h : Below w.heap.size w W) (hx : IsAt W vx xs) (hl : xs.length ≤ 4096) hb => relHolds_c kind va vb vv vx rel C x y z coef vars vs xs ds W (h0.below h) (h1.below h) (h2.below h) hx hf hl hb)
  have CF := Lib.hid (fun vx xs W (h : Below w.heap.size w W) (hx : IsAt W vx xs) (hl : xs.length ≤ 4096) hb => refHolds_c kind va vb vv vx rel C x y z coef vars vs xs ds W (h0.below h) (h1.below h) (h2.below h) hx hf hl hb)
  have HKP := Lib.hid (fun xs (hx : PickedX ds xs) hh => onceP_keeps (x := xs) hLin hx.has' hh)
  have HLE := Lib.hid (fun r (h : onceP (PL.mk kind rel C x y z coef vars vs) ds = some r) => onceP_len h)
  have HNO := Lib.hid (fun r (h : onceP (PL.mk kind rel C x y z coef vars vs) ds = some r) => onceP_normal h)
  obtain ⟨a0, c0, rfl, _⟩ := IsAt.shape h0
  obtain ⟨a1, c1, rfl, _⟩ := IsAt.shape h1
  obtain ⟨a2, c2, rfl, _⟩ := IsAt.shape h2
  obtain ⟨a3, c3, rfl, _⟩ := hd.shape
  obtain ⟨a4, c4, rfl, hpl, hpc⟩ := SlAt.shape hp
  unfold maxLen at hpc
  have B0 : Hid (Below w.heap.size w (w.alloc (.cells #[.int .i64 kind, .slice a0 coef.length c0, .slice a1 vars.length c1, .int .i64 rel, .int .i64 C, .int .i64 x, .int .i64 y, .int .i64 z, .slice a2 vs.length c2] 34))) := (Below.refl _ _).alloc (Nat.le_refl _) _
  have L0 : Hid (BoxL (w.alloc (.cells #[.int .i64 kind, .slice a0 coef.length c0, .slice a1 vars.length c1, .int .i64 rel, .int .i64 C, .int .i64 x, .int .i64 y, .int .i64 z, .slice a2 vs.length c2] 34)) w.heap.size [.int .i64 kind, .slice a0 coef.length c0, .slice a1 vars.length c1, .int .i64 rel, .int .i64 C, .int .i64 x, .int .i64 y, .int .i64 z, .slice a2 vs.length c2]) := BoxL.mk' _ #[.int .i64 kind, .slice a0 coef.length c0, .slice a1 vars.length c1, .int .i64 rel, .int .i64 C, .int .i64 x, .int .i64 y, .int .i64 z, .slice a2 vs.length c2] _
  clear h0 h1 h2 hd hp hf hLin hr hck hm m5 m6 hz
  unfold propV at CM CO CH CF ⊢
  dsimp only at CO
  generalize holdsP (PL.mk kind rel C x y z coef vars vs) = HO at *
  generalize onceP (PL.mk kind rel C x y z coef vars vs) ds = RES at *
  have j1 : ¬ (100 : Int) < zs.length := by omega
  have CM1 := Lib.hid (CM.out _ B0.out)
  clear CM
  go_enter Try.func4, Try.ntmps4
  go_wp2_with (first
    | (go_at_call 12; (with_reducible refine (CM1.out).mono ?_); rintro e W1 ⟨rfl, bb⟩; have B1 := Lib.hid (B0.out.trans (bb.mono B0.out.size)); have L1 := Lib.hid (L0.out.below bb (by have := L0.out.lt (by simp); omega)); obtain ⟨d0, _⟩ := L1.out.get 0 rfl; obtain ⟨d1, _⟩ := L1.out.get 1 rfl; obtain ⟨d2, _⟩ := L1.out.get 2 rfl; obtain ⟨d3, _⟩ := L1.out.get 3 rfl; obtain ⟨d4, _⟩ := L1.out.get 4 rfl; obtain ⟨d5, _⟩ := L1.out.get 5 rfl; obtain ⟨d6, _⟩ := L1.out.get 6 rfl; obtain ⟨d7, _⟩ := L1.out.get 7 rfl; obtain ⟨d8, _⟩ := L1.out.get 8 rfl; clear bb)
    | (go_at_call 14; (with_reducible refine (CP.out _ B1.out).mono ?_); rintro e W2 ⟨hh, bb⟩; have B2 := Lib.hid (B1.out.trans (bb.mono B1.out.size)); have L2 := Lib.hid (L1.out.below bb (by have := L1.out.lt (by simp); omega)); obtain ⟨k0, _⟩ := L2.out.get 0 rfl; obtain ⟨k1, _⟩ := L2.out.get 1 rfl; obtain ⟨k2, _⟩ := L2.out.get 2 rfl; obtain ⟨k3, _⟩ := L2.out.get 3 rfl; obtain ⟨k4, _⟩ := L2.out.get 4 rfl; obtain ⟨k5, _⟩ := L2.out.get 5 rfl; obtain ⟨k6, _⟩ := L2.out.get 6 rfl; obtain ⟨k7, _⟩ := L2.out.get 7 rfl; obtain ⟨k8, _⟩ := L2.out.get 8 rfl; clear bb; rcases hh with rfl | ⟨vx, xs, rfl, hxa, hpx⟩;
        rotate_left;
          (obtain ⟨xa, xc, rfl, _⟩ := IsAt.shape hxa;
           have HXA := Lib.hid hxa;
           have HPX := Lib.hid hpx;
           have CH1 := Lib.hid (fun W (h : Below W2.heap.size W2 W) => CH.out _ xs W (B2.out.trans (h.mono B2.out.size)) (hxa.below h) (by have := hpx.len; omega) hpx.bnd);
           have CF1 := Lib.hid (fun W (h : Below W2.heap.size W2 W) => CF.out _ xs W (B2.out.trans (h.mono B2.out.size)) (hxa.below h) (by have := hpx.len; omega) hpx.bnd);
           have HK := HKP.out xs hpx;
           clear CH CF CP HKP hxa hpx;
           generalize HO xs = hb at *;
           rcases hb with _ | _;
           (have COf : Hid (∀ W, Below w.heap.size w W → Calls Try.prog 8 #[.agg #[.int .i64 kind, .slice a0 coef.length c0, .slice a1 vars.length c1, .int .i64 rel, .int .i64 C, .int .i64 x, .int .i64 y, .int .i64 z, .slice a2 vs.length c2], .slice a3 ds.length c3] W fun e w' => (∃ v b, e = .returned (.tuple #[v, .bool b])) ∧ Below W.heap.size W w') := (fun W h => (CO.out W h).mono fun e w' hh => by
              obtain ⟨hb, ⟨ds', ao, cap, _, he, _⟩ | ⟨_, he⟩⟩ := hh
              · exact ⟨⟨_, _, he⟩, hb⟩
              · exact ⟨⟨_, _, he⟩, hb⟩));
           clear CO HK;
           rotate_left;
            (obtain ⟨r, rfl, hrx⟩ := HK rfl;
             have HRX := Lib.hid hrx;
             have hrl := HLE.out r rfl;
             have HRL := Lib.hid hrl;
             have HRN := Lib.hid (HNO.out r rfl);
             have COt : Hid (∀ W, Below w.heap.size w W → Calls Try.prog 8 #[.agg #[.int .i64 kind, .slice a0 coef.length c0, .slice a1 vars.length c1, .int .i64 rel, .int .i64 C, .int .i64 x, .int .i64 y, .int .i64 z, .slice a2 vs.length c2], .slice a3 ds.length c3] W fun e w' => ∃ ao cap, e = .returned (.tuple #[.slice ao ds.length cap, .bool true]) ∧ DsAt w' (.slice ao ds.length cap) r ∧ Below W.heap.size W w') := (fun W h => (CO.out W h).mono fun e w' hh => by have h2 := hh.is; rw [hrl] at h2; exact h2);
             clear CO HK HLE HNO hrx hrl)))
    | (go_at_call 15; (with_reducible refine (CH1.out _ (Below.refl _ _)).mono ?_); rintro e W3 ⟨rfl, bb⟩; have P3 := Lib.hid bb; have L3 := Lib.hid (L2.out.below bb (by have := L2.out.lt (by simp); omega)); obtain ⟨l0, _⟩ := L3.out.get 0 rfl; obtain ⟨l1, _⟩ := L3.out.get 1 rfl; obtain ⟨l2, _⟩ := L3.out.get 2 rfl; obtain ⟨l3, _⟩ := L3.out.get 3 rfl; obtain ⟨l4, _⟩ := L3.out.get 4 rfl; obtain ⟨l5, _⟩ := L3.out.get 5 rfl; obtain ⟨l6, _⟩ := L3.out.get 6 rfl; obtain ⟨l7, _⟩ := L3.out.get 7 rfl; obtain ⟨l8, _⟩ := L3.out.get 8 rfl; clear bb)
    | (go_at_call 16; (with_reducible refine (CF1.out _ P3.out).mono ?_); rintro e W4 ⟨rfl, bb⟩; have P4 := Lib.hid (P3.out.trans (bb.mono P3.out.size)); have B4 := Lib.hid (B2.out.trans (P4.out.mono B2.out.size)); have L4 := Lib.hid (L3.out.below bb (by have := L3.out.lt (by simp); omega)); obtain ⟨n0, _⟩ := L4.out.get 0 rfl; obtain ⟨n1, _⟩ := L4.out.get 1 rfl; obtain ⟨n2, _⟩ := L4.out.get 2 rfl; obtain ⟨n3, _⟩ := L4.out.get 3 rfl; obtain ⟨n4, _⟩ := L4.out.get 4 rfl; obtain ⟨n5, _⟩ := L4.out.get 5 rfl; obtain ⟨n6, _⟩ := L4.out.get 6 rfl; obtain ⟨n7, _⟩ := L4.out.get 7 rfl; obtain ⟨n8, _⟩ := L4.out.get 8 rfl; clear bb)
    | (go_at_call 8; (with_reducible refine (COf.out _ B4.out).mono ?_); rintro e W5 ⟨⟨v5, b5, rfl⟩, bb⟩; have B5 := Lib.hid (B4.out.trans (bb.mono B4.out.size)); clear bb)
    | (go_at_call 8; (with_reducible refine (COt.out _ B4.out).mono ?_); rintro e W5 ⟨a5, c5, rfl, d5, bb⟩; have D5 := Lib.hid d5; have P5 := Lib.hid (P4.out.trans (bb.mono P4.out.size)); have B5 := Lib.hid (B4.out.trans (bb.mono B4.out.size)); clear bb d5))
  · have X5 := Lib.hid (show IsAt W5 (.slice xa xs.length xc) xs from HXA.out.below P5.out)
    clear CH1 CF1 COt L0 L1 L2 L3 L4 HXA P3 P4 P5
    go_loopw [12] (fun s wr => ∃ k : Nat, k ≤ ds.length ∧ s = .int .i64 k ∧ Hid (Below W5.heap.size W5 wr)) (fun s _ => ds.length - (intOf s).toNat)
    case atStart => exact ⟨0, by omega, rfl, Lib.hid (Below.refl _ _)⟩
    case round =>
      obtain ⟨k, hk, rfl, HQ⟩ := hrel
      by_cases hlt : k < ds.length
      · have hkr : k < r.length := by have := HRL.out; omega
        have hkx : k < xs.length := by have := HPX.out.len; omega
        obtain ⟨b, off, ao, cap, rfl, q1, q2, hjk, hc, hrg⟩ := D5.out.get k hkr
        clear hjk
        obtain ⟨b3, o3, rfl, q3, q4, x3⟩ := X5.out.get k hkx
        have j1 : (k : Int) < ds.length := by omega
        have j2 : (k : Int) < xs.length := by omega
        have hrl := allN_len HRN.out k hkr
        have CHs := Lib.hid (fun n => refHas_c _ r[k] xs[k] (wr.drewN n) (SlAt.drewN (RgAt.below hrg HQ.out) n) hrl)
        have hmm := HRX.out.2 k hkr
        rw [getD_at r k hkr, getD_at xs k hkx] at hmm
        have hxk := HPX.out.bnd _ (List.getElem_mem hkx)
        have hin : (inD xs[k] && memL r[k] xs[k]) = true := by rw [hmm]; simp [inD]; omega
        rw [hin] at CHs
        clear hmm hin hrg
        generalize r[k] = rk at *
        generalize xs[k] = xk at *
        rw [← HQ.out.cell (p := ⟨b, off + k, none⟩) q2] at hc
        rw [← HQ.out.cell (p := ⟨b3, o3 + k, none⟩) q4] at x3
        go_wp2
        go_quiet ((go_at_call 7; exact quietHere (CHs.out _)))
        go_wp2
        exact ⟨⟨k + 1, by omega, by go_num, Lib.hid (below_drewN HQ.out _)⟩, by simp [intOf]; omega⟩
      · go_wp2
        go_ret
        exact ⟨rfl, B5.out.trans (HQ.out.mono B5.out.size)⟩
  · go_ret
    exact ⟨rfl, B2.out⟩
  · go_ret
    exact ⟨rfl, B5.out⟩
theorem relKeeps_any (va vb vv vds vp : Value) (kind rel C x y z : Int) (coef vars vs zs : List Int) (ds : Ds) (w : World) (h0 : IsAt w va coef) (h1 : IsAt w vb vars) (h2 : IsAt w vv vs) (hd : DsAt w vds ds) (hp : U16At w vp zs) (hz : ∀ z ∈ zs, 0 ≤ z ∧ z ≤ 65535) :
    Calls Try.prog 4 #[propV kind va vb rel C x y z vv, vds, vp] w fun e w' => e = .returned (.bool true) ∧ Below w.heap.size w w' := by
  by_cases hzl : zs.length ≤ 100
  · cases hr : right16 kind rel C x y z coef vars vs ds with
    | false => exact relKeeps_bad va vb vv vds vp kind rel C x y z coef vars vs zs ds w h0 h1 h2 hd hp (fun _ => hr)
    | true => exact relKeeps_good va vb vv vds vp kind rel C x y z coef vars vs zs ds w h0 h1 h2 hd hp hz hzl hr
  · exact relKeeps_bad va vb vv vds vp kind rel C x y z coef vars vs zs ds w h0 h1 h2 hd hp (fun h => absurd h hzl)
end Go.Proofs.Ytajooiainglpmaa
namespace Go.Proofs.Ytajooiainglpmaa
open Go.RowKit

/-- a list of sets and a list of integers that the call has made, none in the other's block -/
structure TwoL (w : World) (B : Nat) (o1 o2 : Value) (ds : Ds) (ys : List Int) (us : List Value) : Prop where
  app : DsApp w B o1 ds us
  own : w.ownsRow B 3 1 o2 ys.length (ys.map (Value.int .i64))
  ap : Apart o1 o2
  aps : ∀ j, (hj : j < ds.length) → ∃ u, us[j]? = some u ∧ (ds[j] ≠ [] → Apart u o2)
theorem TwoL.below {w w' : World} {B : Nat} {o1 o2 : Value} {ds : Ds} {ys : List Int} {us : List Value} (h : TwoL w B o1 o2 ds ys us) (hb : Below w.heap.size w w') : TwoL w' B o1 o2 ds ys us :=
  ⟨h.app.below hb, own_below h.own hb, h.ap, h.aps⟩
theorem TwoL.ints {w w' : World} {B g cap : Nat} {o1 o2 : Value} {ds : Ds} {ys : List Int} {us : List Value} (h : TwoL w B o1 o2 ds ys us) (n : Int)
    (ho : w'.ownsRow B 3 1 (.slice (some ⟨g, 0, none⟩) (ys.length + 1) cap) (ys.length + 1) (ys.map (Value.int .i64) ++ [.int .i64 n])) (hk : KeepsBut w w' o2) (hg : o2.ownBlock = some g ∨ w.heap.size ≤ g) :
    TwoL w' B o1 (.slice (some ⟨g, 0, none⟩) (ys.length + 1) cap) ds (ys ++ [n]) us := by
  have hfar : ∀ {x : Value}, Apart x o2 → (∀ b, x.ownBlock = some b → b < w.heap.size) → Apart x (.slice (some ⟨g, 0, none⟩) (ys.length + 1) cap) := fun {x} h0 hx b hb he => by
    have hb' : g = b := by simpa [Value.ownBlock] using he
    subst hb'
    rcases hg with h1 | h1
    · exact h0 g hb h1
    · have := hx g hb; omega
  have hblk : ∀ j, (hj : j < ds.length) → ∀ u, us[j]? = some u → ds[j] ≠ [] → ∀ b, u.ownBlock = some b → b < w.heap.size := fun j hj u hu hne => by
    obtain ⟨u', e, r, _⟩ := h.app.2.2 j hj
    rw [hu] at e; cases e
    exact r.blk hne
  refine ⟨⟨h.app.1, own_kept h.app.2.1 hk h.ap, fun j hj => ?_⟩, by rw [List.length_append, List.map_append]; exact ho, hfar h.ap (fun b hb => (h.app.2.1.lt b hb).2), fun j hj => ?_⟩
  · obtain ⟨u, e, r, c⟩ := h.app.2.2 j hj
    obtain ⟨u', e', c'⟩ := h.aps j hj
    rw [e] at e'; cases e'
    exact ⟨u, e, r.keptBut hk c', c⟩
  · obtain ⟨u', e', c'⟩ := h.aps j hj
    exact ⟨u', e', fun hne => hfar (c' hne) (hblk j hj u' e' hne)⟩
theorem TwoL.sets {w w' : World} {B g cap : Nat} {o1 o2 u : Value} {ds : Ds} {ys : List Int} {us : List Value} {d : List Rg} (h : TwoL w B o1 o2 ds ys us) (hu : RgAt w u d) (ha : d ≠ [] → Apart u o1) (ha2 : d ≠ [] → Apart u o2)
    (ho : w'.ownsRow B 25 1 (.slice (some ⟨g, 0, none⟩) (ds.length + 1) cap) (ds.length + 1) (us ++ [u])) (hk : KeepsBut w w' o1) (hg : o1.ownBlock = some g ∨ w.heap.size ≤ g) :
    TwoL w' B (.slice (some ⟨g, 0, none⟩) (ds.length + 1) cap) o2 (ds ++ [d]) ys (us ++ [u]) := by
  refine ⟨h.app.push hu ha ho hk hg, own_kept h.own hk h.ap.symm, fun b hb he => ?_, fun j hj => ?_⟩
  · have hb' : g = b := by simpa [Value.ownBlock] using hb
    subst hb'
    rcases hg with h1 | h1
    · exact h.ap g h1 he
    · have := (h.own.lt g he).2; omega
  · rw [List.length_append, List.length_singleton] at hj
    by_cases hjl : j < ds.length
    · obtain ⟨u', e', c'⟩ := h.aps j hjl
      refine ⟨u', by rw [List.getElem?_append_left (by rw [h.app.1]; exact hjl)]; exact e', ?_⟩
      rw [List.getElem_append_left hjl]; exact c'
    · obtain rfl : j = ds.length := by omega
      refine ⟨u, by rw [List.getElem?_append_right (by rw [h.app.1]; exact Nat.le_refl _), h.app.1]; simp, ?_⟩
      rw [List.getElem_append_right (Nat.le_refl _)]; simpa using ha2
theorem single_snoc (ys : List Int) (n : Int) : single (ys ++ [n]) = single ys ++ [[(n, n)]] := by simp [single]
/-- a set of one integer, laid in a new block, is none of two older lists -/
theorem TwoL.one {w w' : World} {B g1 g2 c1 c2 : Nat} {o1 o2 : Value} {ys : List Int} {us : List Value} {n : Int} {T : TypeId} (h : TwoL w B o1 o2 (single ys) ys us) {W1 : World}
    (ho2 : W1.ownsRow B 3 1 (.slice (some ⟨g2, 0, none⟩) (ys.length + 1) c2) (ys.length + 1) (ys.map (Value.int .i64) ++ [.int .i64 n])) (hk2 : KeepsBut w W1 o2) (hg2 : o2.ownBlock = some g2 ∨ w.heap.size ≤ g2)
    (ho1 : w'.ownsRow B 25 1 (.slice (some ⟨g1, 0, none⟩) (ys.length + 1) c1) (ys.length + 1) (us ++ [.slice (some ⟨W1.heap.size, 0, none⟩) 1 1]))
    (hk1 : KeepsBut (W1.alloc (.cells #[.int .i64 n, .int .i64 n] T)) w' o1) (hg1 : o1.ownBlock = some g1 ∨ (W1.alloc (.cells #[.int .i64 n, .int .i64 n] T)).heap.size ≤ g1) :
    TwoL w' B (.slice (some ⟨g1, 0, none⟩) (ys.length + 1) c1) (.slice (some ⟨g2, 0, none⟩) (ys.length + 1) c2) (single (ys ++ [n])) (ys ++ [n]) (us ++ [.slice (some ⟨W1.heap.size, 0, none⟩) 1 1]) := by
  have h1 := h.ints n ho2 hk2 hg2
  have h2 := h1.below ((Below.refl _ _).alloc (Nat.le_refl _) (.cells #[.int .i64 n, .int .i64 n] T))
  rw [single_snoc]
  have hs : (single ys).length = ys.length := single_len ys
  have := TwoL.sets (g := g1) (cap := c1) (d := [(n, n)]) h2 (rgAt_lit2 W1 (n, n) T) (fun _ => apart_made h1.app.2.1 (fun b hb => by simp [Value.ownBlock] at hb; omega)) (fun _ => apart_made h1.own (fun b hb => by simp [Value.ownBlock] at hb; omega))
    (by rw [hs]; exact ho1) hk1 hg1
  rw [hs] at this
  exact this
end Go.Proofs.Ytajooiainglpmaa
