/-
  fix.Check and the law FixChecks, walked.
-/
import Derived.Test.YtkhiogcdamjocaaFix1
namespace Go.Proofs.Ytkhiogcdamjocaa
open Go.RowKit

set_option maxRecDepth 100000 in
set_option maxHeartbeats 1600000 in
theorem fixCheck_c (vd vp : Value) (ds : Ds) (ps : List PL) (w : World) (hd : DsAt w vd ds) (hp : PsAt w vp ps) (hok : ∀ j, (hj : j < ps.length) → ps[j].ok) :
    Calls Try.prog 12 #[vd, vp] w fun e w' => e = .returned (.int .i64 (fixChk ds.length ps)) ∧ Below w.heap.size w w' := by
  obtain ⟨a0, c0, rfl, _⟩ := DsAt.shape hd
  obtain ⟨a1, c1, rfl, _⟩ := PsAt.shape hp
  have HP := Lib.hid hp
  have HO := Lib.hid hok
  generalize ds.length = m at *
  clear hd hp hok
  by_cases h1 : 64 < m
  · have hS : Hid (fixChk m ps = 34) := by show _ = _; unfold fixChk; rw [if_pos (by omega)]
    go_enter Try.func12, Try.ntmps12
    go_wp2
    go_ret
    exact ⟨ret_int hS.out.symm, Below.refl _ _⟩
  by_cases h2 : 256 < ps.length
  · have hS : Hid (fixChk m ps = 34) := by show _ = _; unfold fixChk; rw [if_pos (by omega)]
    go_enter Try.func12, Try.ntmps12
    go_wp2
    go_ret
    exact ⟨ret_int hS.out.symm, Below.refl _ _⟩
  have HH : Hid (∀ k, (hk : k < ps.length) → (∀ j, (hj : j < ps.length) → j < k → ps[j].chk m = 0) → ps[k].chk m ≠ 0 → fixChk m ps = ps[k].chk m) := fun k hk h hp => fix_hit h1 h2 hk h hp
  have HE : Hid ((∀ j, (hj : j < ps.length) → ps[j].chk m = 0) → fixChk m ps = 0) := fun h => fix_none h1 h2 h
  generalize fixChk m ps = R at *
  go_enter Try.func12, Try.ntmps12
  go_wp2
  go_loopw [18] (fun s wr => ∃ i : Nat, i ≤ ps.length ∧ s = .int .i64 i ∧ Hid (∀ j, (hj : j < ps.length) → j < i → ps[j].chk m = 0) ∧ Hid (Below w.heap.size w wr)) (fun s _ => ps.length - (intOf s).toNat)
  case atStart => exact ⟨0, by omega, rfl, fun j _ h => by omega, Lib.hid (Below.refl _ _)⟩
  case round =>
    obtain ⟨i, hil, rfl, HN, HB⟩ := hrel
    by_cases hlt : i < ps.length
    · obtain ⟨b1, o1, va, vb, vv, rfl, q1, cc, i0, i1, i2⟩ := HP.out.get i hlt
      obtain ⟨k1, k2, k3⟩ := HO.out i hlt
      have j1 : (i : Int) < ps.length := by omega
      obtain ⟨x0, x1, x2, x3, x4, x5, x6, x7, x8⟩ := cc.below q1 HB.out
      have hq := Nat.lt_of_lt_of_le q1 HB.out.size
      have HX := Lib.hid (HH.out i hlt HN.out)
      have HQ : Hid (ps[i].chk m = 0 → ∀ j, (hj : j < ps.length) → j < i + 1 → ps[j].chk m = 0) := fun h j hj hjk => by
        rcases Nat.lt_or_ge j i with g | g
        · exact HN.out j hj g
        · obtain rfl : j = i := by omega
          exact h
      have CC0 : ∀ W, Below wr.heap.size wr W → Calls Try.prog 7 #[propV ps[i].kind va vb ps[i].rel ps[i].c ps[i].x ps[i].y ps[i].z vv, .int .i64 m] W fun e w' => e = .returned (.int .i64 (ps[i].chk m)) ∧ Below W.heap.size W w' := fun W h =>
        check_c ps[i].kind va vb vv ps[i].rel ps[i].c ps[i].x ps[i].y ps[i].z m ps[i].coef ps[i].vars ps[i].vs W ((i0.below HB.out).below h) ((i1.below HB.out).below h) ((i2.below HB.out).below h) (by omega) k2 k3
      unfold propV at CC0
      have CC := Lib.hid CC0
      clear CC0
      obtain ⟨b3, n3, rfl, _⟩ := SlAt.shape i0
      obtain ⟨b4, n4, rfl, _⟩ := SlAt.shape i1
      obtain ⟨b5, n5, rfl, _⟩ := SlAt.shape i2
      have HW : Hid (∀ o, Below wr.heap.size wr (wr.alloc o)) := fun o => (Below.refl _ _).alloc (Nat.le_refl _) o
      generalize ps[i].chk m = L at *
      clear i0 i1 i2 cc
      generalize ps[i] = p at *
      by_cases hL : L = 0
      · subst hL
        have HF := Lib.hid (HQ.out rfl)
        go_wp2_with (go_at_call 7; (with_reducible refine (CC.out _ (HW.out _)).mono ?_); rintro e W1 ⟨rfl, bb⟩; have B1 := Lib.hid (HB.out.trans (((HW.out _).trans (bb.mono (HW.out _).size)).mono HB.out.size)); clear bb)
        exact ⟨⟨i + 1, by omega, by go_num, HF, B1⟩, by simp [intOf]; omega⟩
      · have hL2 : (L != 0) = true := by simpa using hL
        have HF := Lib.hid (HX.out hL)
        clear hL
        go_wp2_with (go_at_call 7; (with_reducible refine (CC.out _ (HW.out _)).mono ?_); rintro e W1 ⟨rfl, bb⟩; have B1 := Lib.hid (HB.out.trans (((HW.out _).trans (bb.mono (HW.out _).size)).mono HB.out.size)); clear bb)
        go_ret
        exact ⟨ret_int HF.out.symm, B1.out⟩
    · obtain rfl : i = ps.length := by omega
      have HF := Lib.hid (HE.out (fun j hj => HN.out j hj hj))
      go_wp2
      go_ret
      exact ⟨ret_int HF.out.symm, HB.out⟩

set_option maxRecDepth 100000 in
set_option maxHeartbeats 1600000 in
theorem fixChecks_any (vd vp : Value) (ds : Ds) (ps : List PL) (w : World) (hd : DsAt w vd ds) (hp : PsAt w vp ps) :
    Calls Try.prog 4 #[vd, vp] w fun e w' => e = .returned (.bool true) ∧ Below w.heap.size w w' := by
  obtain ⟨a0, c0, rfl, _⟩ := DsAt.shape hd
  obtain ⟨a1, c1, rfl, _⟩ := PsAt.shape hp
  have HP := Lib.hid hp
  have HD := Lib.hid hd
  clear hd hp
  by_cases h1 : 100 < ds.length
  · go_enter Try.func4, Try.ntmps4
    go_wp2
    go_ret
    exact ⟨rfl, Below.refl _ _⟩
  by_cases h2 : 300 < ps.length
  · go_enter Try.func4, Try.ntmps4
    go_wp2
    go_ret
    exact ⟨rfl, Below.refl _ _⟩
  have C1 : Hid (∀ W, Below w.heap.size w W → (∀ j, (hj : j < ps.length) → ps[j].ok) → Calls Try.prog 12 #[.slice a0 ds.length c0, .slice a1 ps.length c1] W fun e w' => e = .returned (.int .i64 (fixChk ds.length ps)) ∧ Below W.heap.size W w') := fun W h hok => fixCheck_c _ _ ds ps W (HD.out.below h) (HP.out.below h) hok
  have C2 : Hid (∀ W, Below w.heap.size w W → (∀ j, (hj : j < ps.length) → ps[j].ok) → Calls Try.prog 13 #[.slice a0 ds.length c0, .slice a1 ps.length c1] W fun e w' => e = .returned (.int .i64 (fixChk ds.length ps)) ∧ Below W.heap.size W w') := fun W h hok => refFixCheck_c _ _ ds ps W (HD.out.below h) (HP.out.below h) hok
  generalize fixChk ds.length ps = R at *
  go_enter Try.func4, Try.ntmps4
  go_wp2
  go_loopw [5, 6] (fun s t wr => ∃ i q : Nat, i ≤ ps.length ∧ t = .int .i64 i ∧ s = .int .i64 q ∧ q ≤ 4000000 ∧ Hid (q ≤ 4096 → ∀ j, (hj : j < ps.length) → j < i → ps[j].ok) ∧ Hid (Below w.heap.size w wr)) (fun _ t _ => ps.length - (intOf t).toNat)
  case atStart => exact ⟨0, 0, by omega, rfl, rfl, by omega, fun _ j _ h => by omega, Lib.hid (Below.refl _ _)⟩
  case round =>
    obtain ⟨i, q, hil, rfl, rfl, hq4, HN, HB⟩ := hrel
    by_cases hq : 4096 < q
    · by_cases hlt : i < ps.length
      · go_wp2
        go_ret
        exact ⟨rfl, HB.out⟩
      · go_wp2
        go_ret
        exact ⟨rfl, HB.out⟩
    by_cases hlt : i < ps.length
    · obtain ⟨b1, o1, va, vb, vv, rfl, q1, cc, i0, i1, i2⟩ := HP.out.get i hlt
      have j1 : (i : Int) < ps.length := by omega
      obtain ⟨_, x1, x2, _, _, _, _, _, x8⟩ := cc.below q1 HB.out
      have hqs := Nat.lt_of_lt_of_le q1 HB.out.size
      have HQ : Hid (q + (1 + min ps[i].vars.length 1048576 + min ps[i].coef.length 1048576 + min ps[i].vs.length 1048576) ≤ 4096 → ∀ j, (hj : j < ps.length) → j < i + 1 → ps[j].ok) := fun h j hj hjk => by
        rcases Nat.lt_or_ge j i with g | g
        · exact HN.out (by omega) j hj g
        · obtain rfl : j = i := by omega
          exact ⟨by omega, by omega, by omega⟩
      obtain ⟨b3, n3, rfl, _, m3⟩ := SlAt.shape i0
      obtain ⟨b4, n4, rfl, _, m4⟩ := SlAt.shape i1
      obtain ⟨b5, n5, rfl, _, m5⟩ := SlAt.shape i2
      clear i0 i1 i2 cc
      generalize ps[i].vars.length = l1 at *
      generalize ps[i].coef.length = l2 at *
      generalize ps[i].vs.length = l3 at *
      go_wp2
      go_quiet (fail)
      go_wp2
      exact ⟨⟨i + 1, q + (1 + min l1 1048576 + min l2 1048576 + min l3 1048576), by omega, by go_num, by go_num, by omega, HQ, Lib.hid (below_drewN HB.out _)⟩, by simp [intOf]; omega⟩
    · obtain rfl : i = ps.length := by omega
      have HF : Hid (∀ j, (hj : j < ps.length) → ps[j].ok) := fun j hj => HN.out (by omega) j hj hj
      go_wp2_with (first
        | (go_at_call 12; (with_reducible refine (C1.out _ HB.out HF.out).mono ?_); rintro e W1 ⟨rfl, bb⟩; have B1 := Lib.hid (HB.out.trans (bb.mono HB.out.size)); clear bb)
        | (go_at_call 13; (with_reducible refine (C2.out _ B1.out HF.out).mono ?_); rintro e W2 ⟨rfl, bb⟩; have B2 := Lib.hid (B1.out.trans (bb.mono B1.out.size)); clear bb))
      go_ret
      exact ⟨ret_bool (by simp), B2.out⟩
end Go.Proofs.Ytkhiogcdamjocaa
