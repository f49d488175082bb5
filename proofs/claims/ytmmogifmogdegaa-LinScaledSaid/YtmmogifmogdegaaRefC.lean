/-
  coneyref14.cut, .Shift, .Scale, .Ends, .Size, .At, walked.
-/
import Derived.Test.YtmmogifmogdegaaRefB
import Derived.Test.YtmmogifmogdegaaPl4
import Derived.Test.YtmmogifmogdegaaDomD
namespace Go.Proofs.Ytmmogifmogdegaa
open Go.RowKit

set_option maxRecDepth 100000 in
set_option maxHeartbeats 800000 in
theorem refEnds_c (va : Value) (a : List Rg) (w : World) (ha : RgAt w va a) (hla : a.length ≤ 4096) :
    Calls Try.prog 58 #[va] w fun e w' => e = .returned (endV (norm a)) ∧ Below w.heap.size w w' := by
  obtain ⟨ao, cap, rfl, _⟩ := ha.shape
  have CA : Hid (Calls Try.prog 28 #[.slice ao a.length cap] w (RetR (norm a) w)) := refNorm_c _ _ w ha hla
  have hln : (norm a).length ≤ 201 := norm_len a
  clear ha
  generalize hNA : norm a = na at CA hln ⊢
  clear hNA
  rcases List.eq_nil_or_concat na with rfl | ⟨M, p, rfl⟩
  · rw [show ([] : List Rg).length = 0 from rfl] at *
    go_enter Try.func58, Try.ntmps58
    go_wp2_with (first
      | (go_at_call 28; (with_reducible refine CA.out.mono ?_); rintro e W ⟨a1, c1, rfl, hr1, hb1⟩; rw [show ([] : List Rg).length = 0 from rfl]; have HW := Lib.hid hb1; clear hr1 hb1))
    go_ret3
    exact ⟨rfl, HW.out⟩
  · rw [List.concat_eq_append] at *
    go_enter Try.func58, Try.ntmps58
    have hML : (M ++ [p]).length = M.length + 1 := by simp
    have HEV : Hid (endV (M ++ [p]) = .tuple #[.int .i64 ((M ++ [p])[0]'(by simp)).1, .int .i64 p.2, .bool true]) := by
      show _ = _
      cases M with
      | nil => rfl
      | cons r M =>
        have hl : (r :: (M ++ [p])).getLast (by simp) = p := by
          have h1 : (r :: (M ++ [p])).getLast? = some p := List.getLast?_concat (l := r :: M) (a := p)
          rw [List.getLast?_eq_some_getLast (by simp)] at h1
          exact Option.some.inj h1
        show Value.tuple #[_, .int .i64 ((r :: (M ++ [p])).getLast _).2, _] = _
        rw [hl]
        rfl
    have hz : ((M.length : Int) + 1 == 0) = false := beq_eq_false_iff_ne.2 (by omega)
    go_wp2_with (first
      | (go_at_call 28; (with_reducible refine CA.out.mono ?_); rintro e W ⟨a1, c1, rfl, hr1, hb1⟩; have HR1 := Lib.hid hr1; have HW := Lib.hid hb1; clear hr1 hb1; rw [hML]))
    obtain ⟨b, off, c', he, hcap, hbs, hc⟩ := RgAt.at HR1.out (by simp)
    simp only [Value.slice.injEq, true_and] at he
    obtain ⟨rfl, _, rfl⟩ := he
    have c1 := (hc 0 (by simp)).1
    have c2 := (hc M.length (by simp)).2
    simp only [Nat.zero_mul, Nat.add_zero, List.getElem_append_right, Nat.le_refl, Nat.sub_self, List.getElem_cons_zero] at c1 c2
    clear hc
    obtain ⟨x, hx⟩ : ∃ x, x = ((M ++ [p])[0]'(by simp)).1 := ⟨_, rfl⟩
    rw [← hx] at c1 HEV
    clear hx
    go_wp2
    go_quiet (fail)
    go_wp2
    go_ret3
    exact ⟨by rw [HEV.out]; rfl, below_drewN HW.out _⟩
set_option maxRecDepth 100000 in
set_option maxHeartbeats 800000 in
theorem refSize_c (va : Value) (a : List Rg) (w : World) (ha : RgAt w va a) (hla : a.length ≤ 4096) :
    Calls Try.prog 17 #[va] w fun e w' => e = .returned (.int .i64 (sizeL (norm a))) ∧ Below w.heap.size w w' := by
  obtain ⟨ao, cap, rfl, _⟩ := ha.shape
  have CA : Hid (Calls Try.prog 28 #[.slice ao a.length cap] w (RetR (norm a) w)) := refNorm_c _ _ w ha hla
  have HBD : Hid (∀ p ∈ norm a, -200 ≤ p.1 ∧ p.1 ≤ p.2 ∧ p.2 ≤ 200) := norm_bounds a
  have HS : Hid (∀ k, 0 ≤ sizeL ((norm a).take k) ∧ sizeL ((norm a).take k) ≤ 402) := fun k => sizeL_bounds _ (-200) (by decide) ((norm_normal a).take k)
  have hln : (norm a).length ≤ 201 := norm_len a
  clear ha
  generalize hNA : norm a = na at CA hln HBD HS ⊢
  clear hNA
  go_enter Try.func17, Try.ntmps17
  go_wp2_with (first
    | (go_at_call 28; (with_reducible refine CA.out.mono ?_); rintro e W ⟨a1, c1, rfl, hr1, hb1⟩; have HR1 := Lib.hid hr1; have HW := Lib.hid hb1; clear hr1 hb1))
  go_loopw [4, 5] (fun f s wr => ∃ k q : Nat, ∃ fz : Int, k ≤ na.length ∧ s = .int .i64 k ∧ f = .int .i64 fz ∧ fz = sizeL (na.take k) ∧ wr = W.drewN q) (fun _ s _ => na.length - (intOf s).toNat)
  case atStart => exact ⟨0, 0, 0, by omega, rfl, rfl, rfl, rfl⟩
  case round =>
    obtain ⟨k, q, fz, hk, rfl, rfl, hf, rfl⟩ := hrel
    have HF := Lib.hid hf
    have hfb := HS.out k
    rw [← HF.out] at hfb
    obtain ⟨hf1, hf2⟩ := hfb
    clear hf
    by_cases hlt : k < na.length
    · obtain ⟨b, off, c', he, hcap, hbs, hc⟩ := RgAt.at HR1.out (by omega)
      simp only [Value.slice.injEq, true_and] at he
      obtain ⟨rfl, rfl⟩ := he
      obtain ⟨c1, c2⟩ := hc k hlt
      have hbd := HBD.out _ (List.getElem_mem hlt)
      have HT : Hid (sizeL (na.take (k + 1)) = fz + (na[k].2 - na[k].1 + 1)) := by
        show _ = _
        rw [List.take_succ_eq_append_getElem hlt, sizeL_append, HF.out]; simp only [sizeL]; omega
      obtain ⟨r, hr⟩ : ∃ r, r = na[k] := ⟨_, rfl⟩
      rw [← hr] at c1 c2 HT hbd
      clear hc hr
      obtain ⟨hd1, hd2, hd3⟩ := hbd
      go_wp2
      go_quiet (fail)
      go_wp2
      refine ⟨⟨k + 1, q + nq, fz + r.2 - r.1 + 1, by omega, by go_num, by first | rfl | go_num, by rw [HT.out]; omega, rfl⟩, by simp [intOf]; omega⟩
    · obtain rfl : k = na.length := by omega
      go_wp2
      go_ret
      exact ⟨ret_int (by rw [HF.out, List.take_length]), below_drewN HW.out _⟩
set_option maxRecDepth 100000 in
set_option maxHeartbeats 800000 in
theorem refAt_c (va : Value) (a : List Rg) (i : Int) (w : World) (ha : RgAt w va a) (hla : a.length ≤ 4096) (hi0 : -9223372036854775808 ≤ i ∧ i ≤ 9223372036854775807) :
    Calls Try.prog 18 #[va, .int .i64 i] w fun e w' => e = .returned (atV (if i < 0 then none else atL (norm a) i)) ∧ w = w' := by
  obtain ⟨ao, cap, rfl, _⟩ := ha.shape
  have CH : Hid (∀ n, Calls Try.prog 11 #[.slice ao a.length cap, .int .i64 n] w fun e w' => e = .returned (.bool (inD n && memL a n)) ∧ w = w') := fun n => refHas_c _ a n w ha hla
  by_cases hneg : i < 0
  · clear CH
    go_enter Try.func18, Try.ntmps18
    go_wp2
    go_loop [1, 6] (fun f s => f = .int .i64 i ∧ s = .int .i64 (-200)) (fun _ s => 0)
    case atStart => exact ⟨rfl, rfl⟩
    case round =>
      obtain ⟨rfl, rfl⟩ := hrel
      go_wp2
      go_ret2
      exact ⟨rfl, rfl⟩
  have HA : Hid ((if i < 0 then none else atL (norm a) i) = seek (memL a) 401 (-200) i) := by
    show _ = _
    rw [if_neg hneg, norm, atL_canon _ i (by omega)]
  rw [HA.out]
  clear HA ha
  generalize hres : seek (memL a) 401 (-200) i = RES
  have HRES := Lib.hid hres
  clear hres
  obtain ⟨hi1, hi2⟩ := hi0
  go_enter Try.func18, Try.ntmps18
  go_wp2
  go_loop [1, 6] (fun f s => ∃ k : Nat, ∃ fz : Int, k ≤ 401 ∧ s = .int .i64 (201 - (k : Int)) ∧ f = .int .i64 fz ∧ 0 ≤ fz ∧ fz ≤ 9223372036854775807 ∧ RES = seek (memL a) k (201 - (k : Int)) fz) (fun _ s => (201 - intOf s).toNat)
  case atStart => exact ⟨401, i, by omega, rfl, rfl, by omega, by omega, HRES.out.symm⟩
  case round =>
    obtain ⟨k, fz, hk, rfl, rfl, hf1, hf2, hf⟩ := hrel
    cases k with
    | zero =>
      have HF := Lib.hid hf
      clear hf
      go_wp2
      go_ret2
      exact ⟨by rw [HF.out]; rfl, rfl⟩
    | succ k =>
      have CH2 := Lib.hid (CH.out (201 - ((k + 1 : Nat) : Int)))
      have hin : inD (201 - ((k + 1 : Nat) : Int)) = true := by simp [inD]; omega
      rw [hin, Bool.true_and] at CH2
      rw [seek] at hf
      have hn : 201 - ((k + 1 : Nat) : Int) + 1 = 201 - (k : Int) := by push_cast; omega
      rw [hn] at hf
      have hb1 : -200 ≤ 201 - ((k + 1 : Nat) : Int) := by omega
      have hb2 : 201 - ((k + 1 : Nat) : Int) ≤ 200 := by omega
      generalize 201 - ((k + 1 : Nat) : Int) = n at *
      generalize memL a n = xa at *
      cases xa
      · have HF : Hid (RES = seek (memL a) k (201 - (k : Int)) fz) := hf
        clear hf
        go_wp2_with (go_at_call 11; (with_reducible refine CH2.out.mono ?_); rintro e w' ⟨rfl, rfl⟩)
        exact ⟨⟨k, fz, by omega, by rw [← hn], rfl, hf1, hf2, HF.out⟩, by simp [intOf]; omega⟩
      · by_cases h0 : fz = 0
        · subst h0
          have HF : Hid (RES = some n) := hf
          clear hf
          go_wp2_with (go_at_call 11; (with_reducible refine CH2.out.mono ?_); rintro e w' ⟨rfl, rfl⟩)
          go_ret2
          exact ⟨by rw [HF.out]; rfl, rfl⟩
        · have hz : (fz == 0) = false := by simpa using h0
          have HF : Hid (RES = seek (memL a) k (201 - (k : Int)) (fz - 1)) := by
            show _ = _
            rw [hf, if_pos rfl, if_neg h0]
          clear hf
          go_wp2_with (go_at_call 11; (with_reducible refine CH2.out.mono ?_); rintro e w' ⟨rfl, rfl⟩)
          exact ⟨⟨k, fz - 1, by omega, by rw [← hn], by first | rfl | go_num, by omega, by omega, HF.out⟩, by simp [intOf]; omega⟩
end Go.Proofs.Ytmmogifmogdegaa
