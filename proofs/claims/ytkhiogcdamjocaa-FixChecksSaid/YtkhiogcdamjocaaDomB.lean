/-
  dom.Compl, dom.Size, dom.Ends, dom.At; coneylaw14.many, coneylaw14.same, walked.
-/
import Derived.Test.YtkhiogcdamjocaaNorm
import Derived.Test.YtkhiogcdamjocaaPl2
import Derived.Test.YtkhiogcdamjocaaEq
namespace Go.Proofs.Ytkhiogcdamjocaa
open Go.RowKit

set_option maxRecDepth 100000 in
set_option maxHeartbeats 800000 in
theorem compl_c (va : Value) (a : List Rg) (w : World) (ha : RgAt w va a) (hla : a.length ≤ 4096) :
    Calls Try.prog 62 #[va] w (RetR (complL a) w) := by
  obtain ⟨i0, hi, hz0, hz1, hz2⟩ := info_parts Try.infoRg
  obtain ⟨ao, cap, rfl, _⟩ := ha.shape
  have CA : Hid (Calls Try.prog 61 #[.slice ao a.length cap] w (RetR (norm a) w)) := norm_c _ _ w ha hla
  have HN : Hid (complW (-200) (norm a) = complL a) := complW_norm a
  have HBD : Hid (∀ p ∈ norm a, -200 ≤ p.1 ∧ p.1 ≤ p.2 ∧ p.2 ≤ 200) := norm_bounds a
  have hln : (norm a).length ≤ 201 := norm_len a
  have hlm : (complL a).length ≤ 201 := canon_len _
  clear ha
  generalize hNA : norm a = na at CA HN hln HBD
  generalize hME : complL a = me at HN hlm ⊢
  clear hNA hME
  go_enter Try.func62, Try.ntmps62
  go_wp2_with (first
    | (go_at_call 61; (with_reducible refine CA.out.mono ?_); rintro e W ⟨a1, c1, rfl, hr1, hb1⟩; have HR1 := Lib.hid hr1; have HW := Lib.hid hb1; clear hr1 hb1))
  go_loopw [3, 4, 10] (fun o f s wr => ∃ k : Nat, ∃ O : List Rg, ∃ fz : Int, k ≤ na.length ∧ s = .int .i64 k ∧ f = .int .i64 fz ∧ -200 ≤ fz ∧ fz ≤ 201 ∧ O ++ complW fz (na.drop k) = me ∧ wr.ownsRow W.heap.size 84 2 o O.length (cellsR O) ∧ Below W.heap.size W wr) (fun _ _ s _ => na.length - (intOf s).toNat)
  case atStart => exact ⟨0, [], -200, by omega, rfl, rfl, by decide, by decide, HN.out, World.ownsRow_nil _ _ _ _, Below.refl _ _⟩
  case round =>
    obtain ⟨k, O, fz, hk, rfl, rfl, hf1, hf2, hm, hown, hbel⟩ := hrel
    have hOl : O.length ≤ 201 := by have := congrArg List.length hm; simp at this; omega
    have hle : W.heap.size ≤ wr.heap.size := hbel.size
    have HB := Lib.hid hbel
    clear hbel
    by_cases hlt : k < na.length
    · obtain ⟨b, off, c', he, hcap, hbs, hc⟩ := RgAt.at HR1.out (by omega)
      simp only [Value.slice.injEq, true_and] at he
      obtain ⟨rfl, rfl⟩ := he
      obtain ⟨c1, c2⟩ := hc k hlt
      rw [← HB.out.cell (p := ⟨b, off + k * 2, none⟩) hbs] at c1
      rw [← HB.out.cell (p := ⟨b, off + k * 2 + 1, none⟩) hbs] at c2
      have hbd := HBD.out _ (List.getElem_mem hlt)
      rw [List.drop_eq_getElem_cons hlt, complW] at hm
      obtain ⟨r, hr⟩ : ∃ r, r = na[k] := ⟨_, rfl⟩
      rw [← hr] at c1 c2 hm hbd
      have HM := Lib.hid hm
      clear hc hr hm
      obtain ⟨hd1, hd2, hd3⟩ := hbd
      have hbe : b ≠ wr.heap.size := by have := hbs; omega
      by_cases hx : fz < r.1
      · rw [if_pos hx] at HM
        go_wp2_with (at_builtin; refine wpList_append2g rfl (.tmp 18) (.tmp 24) 46 rfl W.heap.size 84 i0 (.agg #[.int .i64 0, .int .i64 0]) 16 Try.underlying46 hi hz0 hz1 hz2 rfl _ _ _ rfl (hown.alloc _) _ _ rfl (by simp) rfl rfl (by omega) (by simp; omega) ?_; intro v1 w1 o1 b1 n1; have c3 := n1 wr.heap.size 1 (.int .i64 r.2) (fun he => by have := (hown.lt _ he).2; omega) (by simp); clear n1)
        refine ⟨⟨k + 1, O ++ [(fz, r.1 - 1)], r.2 + 1, by omega, by go_num, rfl, by omega, by omega, ?_, ?_, (HB.out.alloc hle _).trans b1⟩, by simp [intOf]; omega⟩
        · rw [List.append_assoc]; exact HM.out
        · rw [List.length_append, cellsR_append]; exact o1
      · rw [if_neg hx, List.nil_append] at HM
        go_wp2
        exact ⟨⟨k + 1, O, r.2 + 1, by omega, by go_num, rfl, by omega, by omega, HM.out, hown.alloc _, HB.out.alloc hle _⟩, by simp [intOf]; omega⟩
    · obtain rfl : k = na.length := by omega
      rw [List.drop_length, complW] at hm
      have HM := Lib.hid hm
      clear hm
      obtain ⟨oa, oc, rfl, _⟩ := (SlAt.of_own hown).shape
      by_cases hx : fz ≤ 200
      · rw [if_pos hx] at HM
        go_wp2_with (at_builtin; refine wpList_append2 rfl (.tmp 32) (.tmp 35) 46 rfl W.heap.size 84 i0 (.agg #[.int .i64 0, .int .i64 0]) 16 Try.underlying46 hi hz0 hz1 hz2 rfl _ _ _ rfl hown _ _ rfl (by simp) rfl rfl (by omega) HB.out.size ?_; intro v1 w1 o1 b1 n1)
        go_ret
        have o2 : w1.ownsRow W.heap.size 84 2 v1 me.length (cellsR me) := by
          rw [← HM.out, List.length_append, cellsR_append]; exact o1
        obtain ⟨oa, oc, rfl, _⟩ := (SlAt.of_own o2).shape
        exact ⟨_, _, rfl, RgAt.own o2, HW.out.trans ((HB.out.trans b1).mono HW.out.size)⟩
      · rw [if_neg hx, List.append_nil] at HM
        have he := HM.out
        subst he
        go_wp2
        go_ret
        exact ⟨_, _, rfl, RgAt.own hown, HW.out.trans (HB.out.mono HW.out.size)⟩
end Go.Proofs.Ytkhiogcdamjocaa
