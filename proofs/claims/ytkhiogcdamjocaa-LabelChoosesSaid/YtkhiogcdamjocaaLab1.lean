/-
  label.Check, rank, and the reference's Check, domain, better, weight, walked.
-/
import Derived.Test.YtkhiogcdamjocaaLabP
import Derived.Test.YtkhiogcdamjocaaBoxL
import Derived.Test.YtkhiogcdamjocaaDs
import Derived.Test.YtkhiogcdamjocaaDomD
import Derived.Test.YtkhiogcdamjocaaRefC
import Derived.Test.YtkhiogcdamjocaaChk
namespace Go.Proofs.Ytkhiogcdamjocaa
open Go.RowKit

theorem IsAt.shape' {w : World} {v : Value} {zs : List Int} (h : IsAt w v zs) : ∃ ao cap, v = .slice ao zs.length cap ∧ zs.length ≤ cap ∧ cap ≤ maxLen := SlAt.shape h
theorem IsAt.get' {w : World} {ao : Option Addr} {n cap : Nat} {zs : List Int} (h : IsAt w (.slice ao n cap) zs) (k : Nat) (hk : k < zs.length) :
    ∃ b off, ao = some ⟨b, off, none⟩ ∧ zs.length ≤ cap ∧ b < w.heap.size ∧ w.cell? ⟨b, off + k, none⟩ = some (.int .i64 zs[k]) := by
  obtain ⟨b, off, c', he, hc, hb, hx⟩ := IsAt.at h (by omega)
  simp only [Value.slice.injEq] at he
  obtain ⟨rfl, rfl, rfl⟩ := he
  exact ⟨b, off, rfl, hc, hb, hx k hk⟩
theorem boxZ (w : World) (a b c d : Value) (T : TypeId) : Below w.heap.size w (w.alloc (.cells #[a, b, c, d] T)) := (Below.refl _ _).alloc (Nat.le_refl _) _

set_option maxRecDepth 100000 in
set_option maxHeartbeats 1600000 in
theorem labCheck_c (sel ord br : Int) (aw : Option Addr) (n cw : Nat) (w : World) :
    Calls Try.prog 18 #[.agg #[.int .i64 sel, .int .i64 ord, .int .i64 br, .slice aw n cw]] w fun e w' => e = .returned (.int .i64 (labChk sel ord br n)) ∧ Below w.heap.size w w' := by
  have HZ := Lib.hid (boxZ w (.int .i64 sel) (.int .i64 ord) (.int .i64 br) (.slice aw n cw) 45)
  have fin : ∀ (h : sel < 0 ∨ 4 < sel ∨ ord < 0 ∨ 1 < ord ∨ br < 0 ∨ 1 < br ∨ 64 < n), labChk sel ord br n = 190 := fun h => by unfold labChk; rw [if_pos h]
  have HF := Lib.hid fin
  clear fin
  by_cases h1 : sel < 0
  · have HQ := Lib.hid (HF.out (.inl h1))
    go_enter Try.func18, Try.ntmps18
    go_wp2
    go_ret
    exact ⟨ret_int HQ.out.symm, HZ.out⟩
  by_cases h2 : 4 < sel
  · have HQ := Lib.hid (HF.out (.inr (.inl h2)))
    go_enter Try.func18, Try.ntmps18
    go_wp2
    go_ret
    exact ⟨ret_int HQ.out.symm, HZ.out⟩
  by_cases h3 : ord < 0
  · have HQ := Lib.hid (HF.out (.inr (.inr (.inl h3))))
    go_enter Try.func18, Try.ntmps18
    go_wp2
    go_ret
    exact ⟨ret_int HQ.out.symm, HZ.out⟩
  by_cases h4 : 1 < ord
  · have HQ := Lib.hid (HF.out (.inr (.inr (.inr (.inl h4)))))
    go_enter Try.func18, Try.ntmps18
    go_wp2
    go_ret
    exact ⟨ret_int HQ.out.symm, HZ.out⟩
  by_cases h5 : br < 0
  · have HQ := Lib.hid (HF.out (.inr (.inr (.inr (.inr (.inl h5))))))
    go_enter Try.func18, Try.ntmps18
    go_wp2
    go_ret
    exact ⟨ret_int HQ.out.symm, HZ.out⟩
  by_cases h6 : 1 < br
  · have HQ := Lib.hid (HF.out (.inr (.inr (.inr (.inr (.inr (.inl h6)))))))
    go_enter Try.func18, Try.ntmps18
    go_wp2
    go_ret
    exact ⟨ret_int HQ.out.symm, HZ.out⟩
  by_cases h7 : 64 < n
  · have HQ := Lib.hid (HF.out (.inr (.inr (.inr (.inr (.inr (.inr h7)))))))
    go_enter Try.func18, Try.ntmps18
    go_wp2
    go_ret
    exact ⟨ret_int HQ.out.symm, HZ.out⟩
  have HQ : Hid (labChk sel ord br n = 0) := by show _ = _; unfold labChk; rw [if_neg (by omega)]
  go_enter Try.func18, Try.ntmps18
  go_wp2
  go_ret
  exact ⟨ret_int HQ.out.symm, HZ.out⟩

set_option maxRecDepth 100000 in
theorem within19_any (n lo hi : Int) (w : World) : Calls Try.prog 41 #[.int .i64 n, .int .i64 lo, .int .i64 hi] w fun e w' => e = .returned (.bool (decide (lo ≤ n) && decide (n ≤ hi))) ∧ w = w' := by
  by_cases h1 : lo ≤ n
  · by_cases h2 : n ≤ hi
    · go_enter Try.func41, Try.ntmps41
      go_wp2
      go_ret
      exact ⟨ret_bool (by simp [h1, h2]), rfl⟩
    · go_enter Try.func41, Try.ntmps41
      go_wp2
      go_ret
      exact ⟨ret_bool (by simp [h1, h2]), rfl⟩
  · go_enter Try.func41, Try.ntmps41
    go_wp2
    go_ret
    exact ⟨ret_bool (by simp; omega), rfl⟩

set_option maxRecDepth 100000 in
set_option maxHeartbeats 1600000 in
theorem refLabCheck_c (sel ord br : Int) (aw : Option Addr) (n cw : Nat) (w : World) :
    Calls Try.prog 19 #[.agg #[.int .i64 sel, .int .i64 ord, .int .i64 br, .slice aw n cw]] w fun e w' => e = .returned (.int .i64 (labChk sel ord br n)) ∧ Below w.heap.size w w' := by
  have HZ := Lib.hid (boxZ w (.int .i64 sel) (.int .i64 ord) (.int .i64 br) (.slice aw n cw) 45)
  have hq : ∃ b1 b2 b3 b4 : Bool, (decide ((0 : Int) ≤ sel) && decide (sel ≤ 4)) = b1 ∧ (decide ((0 : Int) ≤ ord) && decide (ord ≤ 1)) = b2 ∧ (decide ((0 : Int) ≤ br) && decide (br ≤ 1)) = b3 ∧ decide (64 < n) = b4 ∧ labChk sel ord br n = if b1 = true ∧ b2 = true ∧ b3 = true ∧ b4 = false then 0 else 190 := by
    refine ⟨_, _, _, _, rfl, rfl, rfl, rfl, ?_⟩
    unfold labChk
    by_cases h : sel < 0 ∨ 4 < sel ∨ ord < 0 ∨ 1 < ord ∨ br < 0 ∨ 1 < br ∨ 64 < n
    · rw [if_pos h, if_neg]
      simp; omega
    · rw [if_neg h, if_pos]
      simp; omega
  obtain ⟨b1, b2, b3, b4, e1, e2, e3, e4, e5⟩ := hq
  have CW : Hid (∀ W, Calls Try.prog 41 #[.int .i64 sel, .int .i64 0, .int .i64 4] W fun e w' => e = .returned (.bool b1) ∧ W = w') := fun W => by have := within19_any sel 0 4 W; rwa [e1] at this
  have CO : Hid (∀ W, Calls Try.prog 41 #[.int .i64 ord, .int .i64 0, .int .i64 1] W fun e w' => e = .returned (.bool b2) ∧ W = w') := fun W => by have := within19_any ord 0 1 W; rwa [e2] at this
  have CB : Hid (∀ W, Calls Try.prog 41 #[.int .i64 br, .int .i64 0, .int .i64 1] W fun e w' => e = .returned (.bool b3) ∧ W = w') := fun W => by have := within19_any br 0 1 W; rwa [e3] at this
  rw [e5]
  clear e1 e2 e3 e5
  by_cases h4 : 64 < n
  · obtain rfl : b4 = true := by rw [← e4]; simpa using h4
    clear e4
    cases b1 <;> cases b2 <;> cases b3
    all_goals
      go_enter Try.func19, Try.ntmps19
      go_wp2_with (first
        | (go_at_call 41; (with_reducible refine (CW.out _).mono ?_); rintro e w' ⟨rfl, rfl⟩)
        | (go_at_call 41; (with_reducible refine (CO.out _).mono ?_); rintro e w' ⟨rfl, rfl⟩)
        | (go_at_call 41; (with_reducible refine (CB.out _).mono ?_); rintro e w' ⟨rfl, rfl⟩))
      go_ret
      exact ⟨ret_int (by simp), HZ.out⟩
  · obtain rfl : b4 = false := by rw [← e4]; simpa using h4
    clear e4
    cases b1 <;> cases b2 <;> cases b3
    all_goals
      go_enter Try.func19, Try.ntmps19
      go_wp2_with (first
        | (go_at_call 41; (with_reducible refine (CW.out _).mono ?_); rintro e w' ⟨rfl, rfl⟩)
        | (go_at_call 41; (with_reducible refine (CO.out _).mono ?_); rintro e w' ⟨rfl, rfl⟩)
        | (go_at_call 41; (with_reducible refine (CB.out _).mono ?_); rintro e w' ⟨rfl, rfl⟩))
      go_ret
      exact ⟨ret_int (by simp), HZ.out⟩

set_option maxRecDepth 100000 in
set_option maxHeartbeats 1600000 in
theorem rank_c (vd vw : Value) (sel ord br : Int) (i : Nat) (d : List Rg) (ws : List Int) (w : World) (hd : RgAt w vd d) (hl : d.length ≤ 4096) (hw : IsAt w vw ws) (hi : i ≤ 4096) (hs : sel = 0 ∨ sel = 1 ∨ sel = 2 ∨ sel = 3 ∨ sel = 4) :
    Calls Try.prog 43 #[vd, .int .i64 i, .agg #[.int .i64 sel, .int .i64 ord, .int .i64 br, vw]] w fun e w' => e = .returned (.int .i64 (rankL sel ws d i)) ∧ Below w.heap.size w w' := by
  obtain ⟨ao, cap, rfl, _⟩ := hd.shape
  obtain ⟨aw, cw, rfl, _⟩ := hw.shape'
  have HZ := Lib.hid (boxZ w (.int .i64 sel) (.int .i64 ord) (.int .i64 br) (.slice aw ws.length cw) 45)
  have HB := Lib.hid (BoxL.mk' w #[.int .i64 sel, .int .i64 ord, .int .i64 br, .slice aw ws.length cw] 45)
  have CE : Hid (∀ W, Below w.heap.size w W → Calls Try.prog 47 #[.slice ao d.length cap] W fun e w' => e = .returned (.tuple #[.int .i64 (endsL (norm d)).1, .int .i64 (endsL (norm d)).2.1, .bool (endsL (norm d)).2.2]) ∧ Below W.heap.size W w') := fun W h => ends_c _ d W (hd.below h) hl
  have CS : Hid (∀ W, Below w.heap.size w W → Calls Try.prog 42 #[.slice ao d.length cap] W fun e w' => e = .returned (.int .i64 (sizeL (norm d))) ∧ Below W.heap.size W w') := fun W h => size_c _ d W (hd.below h) hl
  obtain ⟨b1, b2, b3, b4⟩ := ends_bnd d
  have HW := Lib.hid hw
  clear hd hw
  unfold rankL
  generalize (endsL (norm d)).1 = lo at *
  generalize (endsL (norm d)).2.1 = hi at *
  generalize (endsL (norm d)).2.2 = ok at *
  generalize sizeL (norm d) = sz at *
  have CE1 := Lib.hid (CE.out _ HZ.out)
  clear CE
  rcases hs with rfl | rfl | rfl | rfl | rfl
  · go_enter Try.func43, Try.ntmps43
    go_wp2_with (go_at_call 47; (with_reducible refine CE1.out.mono ?_); rintro e W1 ⟨rfl, bb⟩; have B1 := Lib.hid (HZ.out.trans (bb.mono HZ.out.size)); obtain ⟨l0, _⟩ := (HB.out.below bb (by simp)).get 0 rfl; clear bb)
    go_ret
    exact ⟨rfl, B1.out⟩
  · go_enter Try.func43, Try.ntmps43
    go_wp2_with (first
      | (go_at_call 47; (with_reducible refine CE1.out.mono ?_); rintro e W1 ⟨rfl, bb⟩; have B1 := Lib.hid (HZ.out.trans (bb.mono HZ.out.size)); obtain ⟨l0, _⟩ := (HB.out.below bb (by simp)).get 0 rfl; clear bb)
      | (go_at_call 42; (with_reducible refine (CS.out _ B1.out).mono ?_); rintro e W2 ⟨rfl, bb⟩; have B2 := Lib.hid (B1.out.trans (bb.mono B1.out.size)); clear bb))
    go_ret
    exact ⟨rfl, B2.out⟩
  · go_enter Try.func43, Try.ntmps43
    go_wp2_with (go_at_call 47; (with_reducible refine CE1.out.mono ?_); rintro e W1 ⟨rfl, bb⟩; have B1 := Lib.hid (HZ.out.trans (bb.mono HZ.out.size)); obtain ⟨l0, _⟩ := (HB.out.below bb (by simp)).get 0 rfl; clear bb)
    go_ret
    exact ⟨rfl, B1.out⟩
  · go_enter Try.func43, Try.ntmps43
    go_wp2_with (go_at_call 47; (with_reducible refine CE1.out.mono ?_); rintro e W1 ⟨rfl, bb⟩; have B1 := Lib.hid (HZ.out.trans (bb.mono HZ.out.size)); obtain ⟨l0, _⟩ := (HB.out.below bb (by simp)).get 0 rfl; clear bb)
    go_ret
    exact ⟨rfl, B1.out⟩
  · by_cases hlt : i < ws.length
    · obtain ⟨b, off, rfl, q1, q2, x0⟩ := HW.out.get' i hlt
      have hg : Hid (ws.getD i 0 = ws[i]) := by show _ = _; rw [List.getD_eq_getElem?_getD, List.getElem?_eq_getElem hlt]; rfl
      have j1 : (i : Int) < ws.length := by omega
      generalize ws[i] = x at *
      generalize ws.getD i 0 = y at *
      go_enter Try.func43, Try.ntmps43
      go_wp2_with (go_at_call 47; (with_reducible refine CE1.out.mono ?_); rintro e W1 ⟨rfl, bb⟩; have B1 := Lib.hid (HZ.out.trans (bb.mono HZ.out.size)); obtain ⟨l0, _⟩ := (HB.out.below bb (by simp)).get 0 rfl; obtain ⟨l3, _⟩ := (HB.out.below bb (by simp)).get 3 rfl; have x1 := (B1.out.cell (p := ⟨b, off + i, none⟩) q2).trans x0; clear bb)
      go_ret
      exact ⟨ret_int (by rw [hg.out]), B1.out⟩
    · have hg : Hid (ws.getD i 0 = 0) := by show _ = _; rw [List.getD_eq_getElem?_getD, List.getElem?_eq_none (by omega)]; rfl
      generalize ws.getD i 0 = y at *
      go_enter Try.func43, Try.ntmps43
      go_wp2_with (go_at_call 47; (with_reducible refine CE1.out.mono ?_); rintro e W1 ⟨rfl, bb⟩; have B1 := Lib.hid (HZ.out.trans (bb.mono HZ.out.size)); obtain ⟨l0, _⟩ := (HB.out.below bb (by simp)).get 0 rfl; obtain ⟨l3, _⟩ := (HB.out.below bb (by simp)).get 3 rfl; clear bb)
      go_ret
      exact ⟨ret_int (by rw [hg.out]), B1.out⟩

set_option maxRecDepth 100000 in
theorem weight_c (vw : Value) (sel ord br : Int) (i : Nat) (ws : List Int) (w : World) (hw : IsAt w vw ws) (hi : i ≤ 4096) :
    Calls Try.prog 46 #[.agg #[.int .i64 sel, .int .i64 ord, .int .i64 br, vw], .int .i64 i] w fun e w' => e = .returned (.int .i64 (ws.getD i 0)) ∧ Below w.heap.size w w' := by
  obtain ⟨aw, cw, rfl, _⟩ := hw.shape'
  have HZ := Lib.hid (boxZ w (.int .i64 sel) (.int .i64 ord) (.int .i64 br) (.slice aw ws.length cw) 45)
  by_cases hlt : i < ws.length
  · obtain ⟨b, off, rfl, q1, q2, x0⟩ := hw.get' i hlt
    have hg : Hid (ws.getD i 0 = ws[i]) := by show _ = _; rw [List.getD_eq_getElem?_getD, List.getElem?_eq_getElem hlt]; rfl
    have j1 : (i : Int) < ws.length := by omega
    have hne : b ≠ w.heap.size := by omega
    clear hw
    generalize ws[i] = x at *
    generalize ws.getD i 0 = y at *
    go_enter Try.func46, Try.ntmps46
    go_wp2
    go_ret
    exact ⟨ret_int (by rw [hg.out]), HZ.out⟩
  · have hg : Hid (ws.getD i 0 = 0) := by show _ = _; rw [List.getD_eq_getElem?_getD, List.getElem?_eq_none (by omega)]; rfl
    clear hw
    generalize ws.getD i 0 = y at *
    go_enter Try.func46, Try.ntmps46
    go_wp2
    go_ret
    exact ⟨ret_int (by rw [hg.out]), HZ.out⟩

set_option maxRecDepth 100000 in
theorem domain_c (vds : Value) (v : Int) (ds : Ds) (w : World) (hd : DsAt w vds ds) :
    ∃ ao cap, RgAt w (.slice ao (domAt ds v).length cap) (domAt ds v) ∧ ∀ W, Below w.heap.size w W → Calls Try.prog 44 #[vds, .int .i64 v] W fun e w' => e = .returned (.slice ao (domAt ds v).length cap) ∧ W = w' := by
  obtain ⟨ao, cap, rfl, _⟩ := hd.shape
  unfold domAt
  by_cases h1 : v < 0
  · rw [if_pos h1]
    refine ⟨none, 0, RgAt.nil, fun W hW => ?_⟩
    go_enter Try.func44, Try.ntmps44
    go_wp2
    go_ret
    exact ⟨rfl, rfl⟩
  · rw [if_neg h1]
    obtain ⟨n, rfl⟩ := Int.eq_ofNat_of_zero_le (show 0 ≤ v by omega)
    rw [Int.toNat_natCast]
    by_cases h2 : n < ds.length
    · have hg : ds.getD n [] = ds[n] := by rw [List.getD_eq_getElem?_getD, List.getElem?_eq_getElem h2]; rfl
      rw [hg]
      obtain ⟨b, off, a2, c2, rfl, q1, q2, _, hc, hr⟩ := hd.get n h2
      have j1 : (n : Int) < ds.length := by omega
      refine ⟨a2, c2, hr, fun W hW => ?_⟩
      have hcW := (hW.cell (p := ⟨b, off + n, none⟩) q2).trans hc
      clear hr hg hd hc hW
      generalize ds[n] = d at *
      go_enter Try.func44, Try.ntmps44
      go_wp2
      go_ret
      exact ⟨rfl, rfl⟩
    · have hg : ds.getD n [] = [] := by rw [List.getD_eq_getElem?_getD, List.getElem?_eq_none (by omega)]; rfl
      rw [hg]
      refine ⟨none, 0, RgAt.nil, fun W hW => ?_⟩
      clear hg hd
      go_enter Try.func44, Try.ntmps44
      go_wp2
      go_ret
      exact ⟨rfl, rfl⟩

set_option maxRecDepth 100000 in
set_option maxHeartbeats 1600000 in
theorem better_c (va vb : Value) (sel : Int) (a b : List Rg) (w : World) (ha : RgAt w va a) (hb : RgAt w vb b) (hla : a.length ≤ 4096) (hlb : b.length ≤ 4096) (hs : sel = 0 ∨ sel = 1 ∨ sel = 2 ∨ sel = 3 ∨ sel = 4) :
    Calls Try.prog 45 #[va, vb, .int .i64 sel] w fun e w' => e = .returned (.bool (betterL sel a b)) ∧ Below w.heap.size w w' := by
  obtain ⟨ao, cap, rfl, _⟩ := ha.shape
  obtain ⟨ao2, cap2, rfl, _⟩ := hb.shape
  have CA : Hid (∀ W, Below w.heap.size w W → Calls Try.prog 50 #[.slice ao a.length cap] W fun e w' => e = .returned (.tuple #[.int .i64 (endsL (norm a)).1, .int .i64 (endsL (norm a)).2.1, .bool (endsL (norm a)).2.2]) ∧ Below W.heap.size W w') := fun W h => refEnds_c _ a W (ha.below h) hla
  have CB : Hid (∀ W, Below w.heap.size w W → Calls Try.prog 50 #[.slice ao2 b.length cap2] W fun e w' => e = .returned (.tuple #[.int .i64 (endsL (norm b)).1, .int .i64 (endsL (norm b)).2.1, .bool (endsL (norm b)).2.2]) ∧ Below W.heap.size W w') := fun W h => refEnds_c _ b W (hb.below h) hlb
  have SA : Hid (∀ W, Below w.heap.size w W → Calls Try.prog 25 #[.slice ao a.length cap] W fun e w' => e = .returned (.int .i64 (sizeL (norm a))) ∧ Below W.heap.size W w') := fun W h => refSize_c _ a W (ha.below h) hla
  have SB : Hid (∀ W, Below w.heap.size w W → Calls Try.prog 25 #[.slice ao2 b.length cap2] W fun e w' => e = .returned (.int .i64 (sizeL (norm b))) ∧ Below W.heap.size W w') := fun W h => refSize_c _ b W (hb.below h) hlb
  have CA1 := Lib.hid (CA.out w (Below.refl _ _))
  clear ha hb CA
  unfold betterL
  generalize (endsL (norm a)).1 = la at *
  generalize (endsL (norm a)).2.1 = ha at *
  generalize (endsL (norm a)).2.2 = oa at *
  generalize (endsL (norm b)).1 = lb at *
  generalize (endsL (norm b)).2.1 = hb at *
  generalize (endsL (norm b)).2.2 = ob at *
  generalize sizeL (norm a) = sa at *
  generalize sizeL (norm b) = sb at *
  rcases hs with rfl | rfl | rfl | rfl | rfl
  all_goals
    go_enter Try.func45, Try.ntmps45
    go_wp2_with (first
      | (go_at_call 50; (with_reducible refine CA1.out.mono ?_); rintro e W1 ⟨rfl, bb⟩; have B1 := Lib.hid bb; clear bb)
      | (go_at_call 50; (with_reducible refine (CB.out _ B1.out).mono ?_); rintro e W2 ⟨rfl, bb⟩; have B2 := Lib.hid (B1.out.trans (bb.mono B1.out.size)); clear bb)
      | (go_at_call 25; (with_reducible refine (SA.out _ B2.out).mono ?_); rintro e W3 ⟨rfl, bb⟩; have B3 := Lib.hid (B2.out.trans (bb.mono B2.out.size)); clear bb)
      | (go_at_call 25; (with_reducible refine (SB.out _ B3.out).mono ?_); rintro e W4 ⟨rfl, bb⟩; have B4 := Lib.hid (B3.out.trans (bb.mono B3.out.size)); clear bb))
    go_ret
    first
      | exact ⟨ret_bool (by simp), B2.out⟩
      | exact ⟨ret_bool (by simp), B4.out⟩
end Go.Proofs.Ytkhiogcdamjocaa
