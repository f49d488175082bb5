/-
  dom.Compl, dom.Size, dom.Ends, dom.At; coneylaw14.many, coneylaw14.same, walked.
-/
import Derived.Test.YtlihgipfimdlpaaNorm
import Derived.Test.YtlihgipfimdlpaaPl2
import Derived.Test.YtlihgipfimdlpaaEq
namespace Go.Proofs.Ytlihgipfimdlpaa
open Go.RowKit

theorem many_c (va vb : Value) (a b : List Rg) (w : World) (ha : RgAt w va a) (hb : RgAt w vb b) :
    Calls Try.prog 11 #[va, vb] w fun e w' => e = .returned (.bool (decide (100 < a.length) || decide (100 < b.length))) ∧ w = w' := by
  obtain ⟨ao, cap, rfl, _⟩ := ha.shape
  obtain ⟨ao2, cap2, rfl, _⟩ := hb.shape
  clear ha hb
  by_cases h1 : 100 < a.length
  · go_enter Try.func11, Try.ntmps11
    go_wp2
    go_ret
    exact ⟨ret_bool (by simp [h1]), rfl⟩
  · by_cases h2 : 100 < b.length
    all_goals
      go_enter Try.func11, Try.ntmps11
      go_wp2
      go_ret
      refine ⟨ret_bool ?_, rfl⟩
      have e1 : decide ((100 : Int) < (a.length : Int)) = decide (100 < a.length) := decide_eq_decide.2 (by omega)
      have e2 : decide ((100 : Int) < (b.length : Int)) = decide (100 < b.length) := decide_eq_decide.2 (by omega)
      rw [e1, e2]
set_option maxRecDepth 100000 in
set_option maxHeartbeats 800000 in
theorem same_c (va vb : Value) (a b : List Rg) (w : World) (ha : RgAt w va a) (hb : RgAt w vb b) (hla : a.length ≤ 4096) (hlb : b.length ≤ 4096) :
    Calls Try.prog 12 #[va, vb] w fun e w' => e = .returned (.bool (decide (a = b))) ∧ ∃ q, w' = w.drewN q := by
  obtain ⟨ao, cap, rfl, _⟩ := ha.shape
  obtain ⟨ao2, cap2, rfl, _⟩ := hb.shape
  have HA := Lib.hid ha
  have HB := Lib.hid hb
  clear ha hb
  by_cases h1 : ¬ a.length = b.length
  · go_enter Try.func12, Try.ntmps12
    go_wp2
    go_ret
    exact ⟨ret_bool (by symm; simp; intro h; exact h1 (by rw [h])), 0, rfl⟩
  · have h2 : a.length = b.length := Decidable.not_not.1 h1
    clear h1
    have h1 := h2
    clear h2
    rw [← h1] at HB ⊢
    have H1 := Lib.hid h1
    clear h1
    go_enter Try.func12, Try.ntmps12
    go_wp2
    go_loopw [5] (fun s wr => ∃ k q : Nat, k ≤ a.length ∧ s = .int .i64 k ∧ wr = w.drewN q ∧ a.take k = b.take k) (fun s _ => a.length - (intOf s).toNat)
    case atStart => exact ⟨0, 0, by omega, rfl, rfl, rfl⟩
    case round =>
      obtain ⟨k, q, hk, rfl, rfl, hE⟩ := hrel
      by_cases hlt : k < a.length
      · obtain ⟨b1, o1, c1, he, hc1, hb1, hc⟩ := RgAt.at HA.out (by omega)
        simp only [Value.slice.injEq, true_and] at he
        obtain ⟨rfl, rfl⟩ := he
        obtain ⟨b2, o2, c2, he, hc2, hb2, hd⟩ := RgAt.at HB.out (by rw [← H1.out]; omega)
        simp only [Value.slice.injEq, true_and] at he
        obtain ⟨rfl, _, rfl⟩ := he
        obtain ⟨p1, p2⟩ := hc k hlt
        obtain ⟨p3, p4⟩ := hd k (by rw [← H1.out]; exact hlt)
        have hta : a.take (k + 1) = a.take k ++ [a[k]] := List.take_succ_eq_append_getElem hlt
        have htb : b.take (k + 1) = b.take k ++ [b[k]'(by rw [← H1.out]; exact hlt)] := List.take_succ_eq_append_getElem _
        obtain ⟨r, hr⟩ : ∃ r, r = a[k] := ⟨_, rfl⟩
        obtain ⟨s, hs⟩ : ∃ s, s = b[k]'(by rw [← H1.out]; exact hlt) := ⟨_, rfl⟩
        rw [← hr] at p1 p2 hta
        rw [← hs] at p3 p4 htb
        have HT := Lib.hid (And.intro hta htb)
        have HE := Lib.hid hE
        have HR := Lib.hid (And.intro hr hs)
        clear hc hd hta htb hr hs hE
        have f1 := neqRg r s
        have f2 := guardRg .neq
        go_wp2
        go_quiet (fail)
        go_wp2
        · have hne : (!decide (r = s)) = true := by assumption
          go_ret
          refine ⟨ret_bool ?_, q + nq, World.drewN_drewN _ _ _⟩
          have hab : a ≠ b := fun h => by
            subst h
            have := HR.out.1.trans HR.out.2.symm
            simp [this] at hne
          simp [hab]
        · have he : (!decide (r = s)) = false := by assumption
          have he' : r = s := by simpa using he
          refine ⟨⟨k + 1, q + nq, by omega, by go_num, rfl, ?_⟩, by simp [intOf]; omega⟩
          rw [HT.out.1, HT.out.2, HE.out, he']
      · obtain rfl : k = a.length := by omega
        go_wp2
        go_ret
        refine ⟨ret_bool ?_, q, rfl⟩
        have hab : a = b := by
          rw [List.take_length, H1.out, List.take_length] at hE
          exact hE
        simp [hab]
set_option maxRecDepth 100000 in
set_option maxHeartbeats 800000 in
theorem compl_c (va : Value) (a : List Rg) (w : World) (ha : RgAt w va a) (hla : a.length ≤ 4096) :
    Calls Try.prog 33 #[va] w (RetR (complL a) w) := by
  obtain ⟨i0, hi, hz0, hz1, hz2⟩ := info_parts Try.infoRg
  obtain ⟨ao, cap, rfl, _⟩ := ha.shape
  have CA : Hid (Calls Try.prog 27 #[.slice ao a.length cap] w (RetR (norm a) w)) := norm_c _ _ w ha hla
  have HN : Hid (complW (-200) (norm a) = complL a) := complW_norm a
  have HBD : Hid (∀ p ∈ norm a, -200 ≤ p.1 ∧ p.1 ≤ p.2 ∧ p.2 ≤ 200) := norm_bounds a
  have hln : (norm a).length ≤ 201 := norm_len a
  have hlm : (complL a).length ≤ 201 := canon_len _
  clear ha
  generalize hNA : norm a = na at CA HN hln HBD
  generalize hME : complL a = me at HN hlm ⊢
  clear hNA hME
  go_enter Try.func33, Try.ntmps33
  go_wp2_with (first
    | (go_at_call 27; (with_reducible refine CA.out.mono ?_); rintro e W ⟨a1, c1, rfl, hr1, hb1⟩; have HR1 := Lib.hid hr1; have HW := Lib.hid hb1; clear hr1 hb1))
  go_loopw [3, 4, 10] (fun o f s wr => ∃ k : Nat, ∃ O : List Rg, ∃ fz : Int, k ≤ na.length ∧ s = .int .i64 k ∧ f = .int .i64 fz ∧ -200 ≤ fz ∧ fz ≤ 201 ∧ O ++ complW fz (na.drop k) = me ∧ wr.ownsRow W.heap.size 28 2 o O.length (cellsR O) ∧ Below W.heap.size W wr) (fun _ _ s _ => na.length - (intOf s).toNat)
  case atStart => exact ⟨0, [], -200, by omega, rfl, rfl, by decide, by decide, HN.out, World.ownsRow_nil _ _ _ _, Below.refl _ _⟩
  case round =>
    obtain ⟨k, O, fz, hk, rfl, rfl, hf1, hf2, hm, hown, hbel⟩ := hrel
    have hOl : O.length ≤ 201 := by have := congrArg List.length hm; simp at this; omega
    have hle : W.heap.size ≤ wr.heap.size := hbel.size
    have HB := Lib.hid hbel
    clear hbel
    by_cases hlt : k < na.length
    · obtain ⟨b, off, c', he, hcap, hbs, hc⟩ := RgAt.at HR1.out (by omega)
      simp only [Value.slice.injEq, true_and] at he
      obtain ⟨rfl, rfl⟩ := he
      obtain ⟨c1, c2⟩ := hc k hlt
      rw [← HB.out.cell (p := ⟨b, off + k * 2, none⟩) hbs] at c1
      rw [← HB.out.cell (p := ⟨b, off + k * 2 + 1, none⟩) hbs] at c2
      have hbd := HBD.out _ (List.getElem_mem hlt)
      rw [List.drop_eq_getElem_cons hlt, complW] at hm
      obtain ⟨r, hr⟩ : ∃ r, r = na[k] := ⟨_, rfl⟩
      rw [← hr] at c1 c2 hm hbd
      have HM := Lib.hid hm
      clear hc hr hm
      obtain ⟨hd1, hd2, hd3⟩ := hbd
      have hbe : b ≠ wr.heap.size := by have := hbs; omega
      by_cases hx : fz < r.1
      · rw [if_pos hx] at HM
        go_wp2_with (at_builtin; refine wpList_append2g rfl (.tmp 18) (.tmp 24) 22 rfl W.heap.size 28 i0 (.agg #[.int .i64 0, .int .i64 0]) 16 Try.underlying22 hi hz0 hz1 hz2 rfl _ _ _ rfl (hown.alloc _) _ _ rfl (by simp) rfl rfl (by omega) (by simp; omega) ?_; intro v1 w1 o1 b1 n1; have c3 := n1 wr.heap.size 1 (.int .i64 r.2) (fun he => by have := (hown.lt _ he).2; omega) (by simp); clear n1)
        refine ⟨⟨k + 1, O ++ [(fz, r.1 - 1)], r.2 + 1, by omega, by go_num, rfl, by omega, by omega, ?_, ?_, (HB.out.alloc hle _).trans b1⟩, by simp [intOf]; omega⟩
        · rw [List.append_assoc]; exact HM.out
        · rw [List.length_append, cellsR_append]; exact o1
      · rw [if_neg hx, List.nil_append] at HM
        go_wp2
        exact ⟨⟨k + 1, O, r.2 + 1, by omega, by go_num, rfl, by omega, by omega, HM.out, hown.alloc _, HB.out.alloc hle _⟩, by simp [intOf]; omega⟩
    · obtain rfl : k = na.length := by omega
      rw [List.drop_length, complW] at hm
      have HM := Lib.hid hm
      clear hm
      obtain ⟨oa, oc, rfl, _⟩ := (SlAt.of_own hown).shape
      by_cases hx : fz ≤ 200
      · rw [if_pos hx] at HM
        go_wp2_with (at_builtin; refine wpList_append2 rfl (.tmp 32) (.tmp 35) 22 rfl W.heap.size 28 i0 (.agg #[.int .i64 0, .int .i64 0]) 16 Try.underlying22 hi hz0 hz1 hz2 rfl _ _ _ rfl hown _ _ rfl (by simp) rfl rfl (by omega) HB.out.size ?_; intro v1 w1 o1 b1 n1)
        go_ret
        have o2 : w1.ownsRow W.heap.size 28 2 v1 me.length (cellsR me) := by
          rw [← HM.out, List.length_append, cellsR_append]; exact o1
        obtain ⟨oa, oc, rfl, _⟩ := (SlAt.of_own o2).shape
        exact ⟨_, _, rfl, RgAt.own o2, HW.out.trans ((HB.out.trans b1).mono HW.out.size)⟩
      · rw [if_neg hx, List.append_nil] at HM
        have he := HM.out
        subst he
        go_wp2
        go_ret
        exact ⟨_, _, rfl, RgAt.own hown, HW.out.trans (HB.out.mono HW.out.size)⟩
end Go.Proofs.Ytlihgipfimdlpaa
