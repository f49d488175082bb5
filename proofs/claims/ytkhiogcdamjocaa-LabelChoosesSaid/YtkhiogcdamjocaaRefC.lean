/-
  coneyref14.cut, .Shift, .Scale, .Ends, .Size, .At, walked.
-/
import Derived.Test.YtkhiogcdamjocaaRefB
import Derived.Test.YtkhiogcdamjocaaPl4
import Derived.Test.YtkhiogcdamjocaaDomD
namespace Go.Proofs.Ytkhiogcdamjocaa
open Go.RowKit

set_option maxRecDepth 100000 in
set_option maxHeartbeats 800000 in
theorem refEnds_c (va : Value) (a : List Rg) (w : World) (ha : RgAt w va a) (hla : a.length ≤ 4096) :
    Calls Try.prog 50 #[va] w fun e w' => e = .returned (endV (norm a)) ∧ Below w.heap.size w w' := by
  obtain ⟨ao, cap, rfl, _⟩ := ha.shape
  have CA : Hid (Calls Try.prog 52 #[.slice ao a.length cap] w (RetR (norm a) w)) := refNorm_c _ _ w ha hla
  have hln : (norm a).length ≤ 201 := norm_len a
  clear ha
  generalize hNA : norm a = na at CA hln ⊢
  clear hNA
  rcases List.eq_nil_or_concat na with rfl | ⟨M, p, rfl⟩
  · rw [show ([] : List Rg).length = 0 from rfl] at *
    go_enter Try.func50, Try.ntmps50
    go_wp2_with (first
      | (go_at_call 52; (with_reducible refine CA.out.mono ?_); rintro e W ⟨a1, c1, rfl, hr1, hb1⟩; rw [show ([] : List Rg).length = 0 from rfl]; have HW := Lib.hid hb1; clear hr1 hb1))
    go_ret3
    exact ⟨rfl, HW.out⟩
  · rw [List.concat_eq_append] at *
    go_enter Try.func50, Try.ntmps50
    have hML : (M ++ [p]).length = M.length + 1 := by simp
    have HEV : Hid (endV (M ++ [p]) = .tuple #[.int .i64 ((M ++ [p])[0]'(by simp)).1, .int .i64 p.2, .bool true]) := by
      show _ = _
      cases M with
      | nil => rfl
      | cons r M =>
        have hl : (r :: (M ++ [p])).getLast (by simp) = p := by
          have h1 : (r :: (M ++ [p])).getLast? = some p := List.getLast?_concat (l := r :: M) (a := p)
          rw [List.getLast?_eq_some_getLast (by simp)] at h1
          exact Option.some.inj h1
        show Value.tuple #[_, .int .i64 ((r :: (M ++ [p])).getLast _).2, _] = _
        rw [hl]
        rfl
    have hz : ((M.length : Int) + 1 == 0) = false := beq_eq_false_iff_ne.2 (by omega)
    go_wp2_with (first
      | (go_at_call 52; (with_reducible refine CA.out.mono ?_); rintro e W ⟨a1, c1, rfl, hr1, hb1⟩; have HR1 := Lib.hid hr1; have HW := Lib.hid hb1; clear hr1 hb1; rw [hML]))
    obtain ⟨b, off, c', he, hcap, hbs, hc⟩ := RgAt.at HR1.out (by simp)
    simp only [Value.slice.injEq, true_and] at he
    obtain ⟨rfl, _, rfl⟩ := he
    have c1 := (hc 0 (by simp)).1
    have c2 := (hc M.length (by simp)).2
    simp only [Nat.zero_mul, Nat.add_zero, List.getElem_append_right, Nat.le_refl, Nat.sub_self, List.getElem_cons_zero] at c1 c2
    clear hc
    obtain ⟨x, hx⟩ : ∃ x, x = ((M ++ [p])[0]'(by simp)).1 := ⟨_, rfl⟩
    rw [← hx] at c1 HEV
    clear hx
    go_wp2
    go_quiet (fail)
    go_wp2
    go_ret3
    exact ⟨by rw [HEV.out]; rfl, below_drewN HW.out _⟩
set_option maxRecDepth 100000 in
set_option maxHeartbeats 800000 in
theorem refSize_c (va : Value) (a : List Rg) (w : World) (ha : RgAt w va a) (hla : a.length ≤ 4096) :
    Calls Try.prog 25 #[va] w fun e w' => e = .returned (.int .i64 (sizeL (norm a))) ∧ Below w.heap.size w w' := by
  obtain ⟨ao, cap, rfl, _⟩ := ha.shape
  have CA : Hid (Calls Try.prog 52 #[.slice ao a.length cap] w (RetR (norm a) w)) := refNorm_c _ _ w ha hla
  have HBD : Hid (∀ p ∈ norm a, -200 ≤ p.1 ∧ p.1 ≤ p.2 ∧ p.2 ≤ 200) := norm_bounds a
  have HS : Hid (∀ k, 0 ≤ sizeL ((norm a).take k) ∧ sizeL ((norm a).take k) ≤ 402) := fun k => sizeL_bounds _ (-200) (by decide) ((norm_normal a).take k)
  have hln : (norm a).length ≤ 201 := norm_len a
  clear ha
  generalize hNA : norm a = na at CA hln HBD HS ⊢
  clear hNA
  go_enter Try.func25, Try.ntmps25
  go_wp2_with (first
    | (go_at_call 52; (with_reducible refine CA.out.mono ?_); rintro e W ⟨a1, c1, rfl, hr1, hb1⟩; have HR1 := Lib.hid hr1; have HW := Lib.hid hb1; clear hr1 hb1))
  go_loopw [4, 5] (fun f s wr => ∃ k q : Nat, ∃ fz : Int, k ≤ na.length ∧ s = .int .i64 k ∧ f = .int .i64 fz ∧ fz = sizeL (na.take k) ∧ wr = W.drewN q) (fun _ s _ => na.length - (intOf s).toNat)
  case atStart => exact ⟨0, 0, 0, by omega, rfl, rfl, rfl, rfl⟩
  case round =>
    obtain ⟨k, q, fz, hk, rfl, rfl, hf, rfl⟩ := hrel
    have HF := Lib.hid hf
    have hfb := HS.out k
    rw [← HF.out] at hfb
    obtain ⟨hf1, hf2⟩ := hfb
    clear hf
    by_cases hlt : k < na.length
    · obtain ⟨b, off, c', he, hcap, hbs, hc⟩ := RgAt.at HR1.out (by omega)
      simp only [Value.slice.injEq, true_and] at he
      obtain ⟨rfl, rfl⟩ := he
      obtain ⟨c1, c2⟩ := hc k hlt
      have hbd := HBD.out _ (List.getElem_mem hlt)
      have HT : Hid (sizeL (na.take (k + 1)) = fz + (na[k].2 - na[k].1 + 1)) := by
        show _ = _
        rw [List.take_succ_eq_append_getElem hlt, sizeL_append, HF.out]; simp only [sizeL]; omega
      obtain ⟨r, hr⟩ : ∃ r, r = na[k] := ⟨_, rfl⟩
      rw [← hr] at c1 c2 HT hbd
      clear hc hr
      obtain ⟨hd1, hd2, hd3⟩ := hbd
      go_wp2
      go_quiet (fail)
      go_wp2
      refine ⟨⟨k + 1, q + nq, fz + r.2 - r.1 + 1, by omega, by go_num, by first | rfl | go_num, by rw [HT.out]; omega, rfl⟩, by simp [intOf]; omega⟩
    · obtain rfl : k = na.length := by omega
      go_wp2
      go_ret
      exact ⟨ret_int (by rw [HF.out, List.take_length]), below_drewN HW.out _⟩
end Go.Proofs.Ytkhiogcdamjocaa
