/-
  coneyref14.Scale, walked.
-/
import Derived.Test.YtlihgipfimdlpaaRefD
namespace Go.Proofs.Ytlihgipfimdlpaa
open Go.RowKit

theorem mul_small (x c : Int) (hx : -200 ≤ x ∧ x ≤ 200) (hc : -10000 ≤ c ∧ c ≤ 10000) : -2000000 ≤ x * c ∧ x * c ≤ 2000000 := by
  have h1 : (x * c).natAbs ≤ 200 * 10000 := by
    rw [Int.natAbs_mul]; exact Nat.mul_le_mul (by omega) (by omega)
  omega
theorem quiet_here {P : Program} {f : FuncId} {args : Array Value} {w : World} {n : Nat} {v : Value} (h : Calls P f args (w.drewN n) fun e w' => e = .returned v ∧ w.drewN n = w') :
    Calls P f args (w.drewN n) fun e w'' => e = .returned v ∧ ∃ m, w'' = w.drewN m := h.mono fun _ _ ⟨he, hw⟩ => ⟨he, n, hw.symm⟩

set_option maxRecDepth 100000 in
set_option maxHeartbeats 3200000 in
theorem refScale_c (va : Value) (a : List Rg) (by' : Int) (w : World) (ha : RgAt w va a) (hla : a.length ≤ 4096) :
    Calls Try.prog 16 #[va, .int .i64 by'] w (RetR (scaleL a by') w) := by
  obtain ⟨i0, hi, hz0, hz1, hz2⟩ := info_parts Try.infoRg
  obtain ⟨ao, cap, rfl, _⟩ := ha.shape
  have CA : Hid (Calls Try.prog 18 #[.slice ao a.length cap] w (RetR (norm a) w)) := refNorm_c _ _ w ha hla
  have CN : Hid (∀ v l W, RgAt W v l → l.length ≤ 4096 → Calls Try.prog 18 #[v] W (RetR (norm l) W)) := fun v l W h hl => refNorm_c v l W h hl
  have CC : Hid (∀ W, Calls Try.prog 44 #[.int .i64 by'] W fun e w' => e = .returned (.int .i64 (clampI by' (-10000) 10000)) ∧ W = w') := fun W => cut_c by' W
  have HBD : Hid (∀ p ∈ norm a, -200 ≤ p.1 ∧ p.1 ≤ p.2 ∧ p.2 ≤ 200) := norm_bounds a
  have HE : Hid (norm (scL (clampI by' (-10000) 10000) (norm a)) = scaleL a by') := scale_clamp a by' _ _ (by decide) (by decide)
  have hln : (norm a).length ≤ 201 := norm_len a
  have hcl : -10000 ≤ clampI by' (-10000) 10000 ∧ clampI by' (-10000) 10000 ≤ 10000 := by unfold clampI; omega
  clear ha
  generalize hNA : norm a = na at CA hln HBD HE
  generalize scaleL a by' = res at HE ⊢
  generalize clampI by' (-10000) 10000 = c at *
  obtain ⟨hcl1, hcl2⟩ := hcl
  clear hNA
  go_enter Try.func16, Try.ntmps16
  go_wp2_with (first
    | (go_at_call 18; (with_reducible refine CA.out.mono ?_); rintro e W ⟨a1, c1, rfl, hr1, hb1⟩; have HR1 := Lib.hid hr1; have HW := Lib.hid hb1; clear hr1 hb1))
  go_loopw [6, 7] (fun o s wr => ∃ k : Nat, k ≤ na.length ∧ s = .int .i64 k ∧ wr.ownsRow W.heap.size 28 2 o (scL c (na.take k)).length (cellsR (scL c (na.take k))) ∧ Below W.heap.size W wr) (fun _ s _ => na.length - (intOf s).toNat)
  case atStart => exact ⟨0, by omega, rfl, World.ownsRow_made W #[] 0 (Nat.le_refl _) (by decide) rfl, (Below.refl _ _).alloc (Nat.le_refl _) _⟩
  case round =>
    obtain ⟨k, hk, rfl, hown, hbel⟩ := hrel
    have hle : W.heap.size ≤ wr.heap.size := hbel.size
    have HB := Lib.hid hbel
    clear hbel
    have hol : (scL c (na.take k)).length ≤ 201 := by rw [scL_length, List.length_take]; omega
    by_cases hlt : k < na.length
    · obtain ⟨b, off, c', he, hcap, hbs, hc⟩ := RgAt.at HR1.out (by omega)
      simp only [Value.slice.injEq, true_and] at he
      obtain ⟨rfl, rfl⟩ := he
      obtain ⟨c1, c2⟩ := hc k hlt
      rw [← HB.out.cell (p := ⟨b, off + k * 2, none⟩) hbs] at c1
      rw [← HB.out.cell (p := ⟨b, off + k * 2 + 1, none⟩) hbs] at c2
      have hbd := HBD.out _ (List.getElem_mem hlt)
      have HT := Lib.hid (scL_take c na k hlt)
      obtain ⟨r, hr⟩ : ∃ r, r = na[k] := ⟨_, rfl⟩
      rw [← hr] at c1 c2 HT hbd
      clear hc hr
      obtain ⟨hd1, hd2, hd3⟩ := hbd
      obtain ⟨x1, x2⟩ := mul_small r.1 c (by omega) (by omega)
      obtain ⟨y1, y2⟩ := mul_small r.2 c (by omega) (by omega)
      have e1 : IntKind.i64.wrap (r.1 * c) = r.1 * c := by simp [IntKind.wrap, IntKind.bits, IntKind.signed]; omega
      have e2 : IntKind.i64.wrap (r.2 * c) = r.2 * c := by simp [IntKind.wrap, IntKind.bits, IntKind.signed]; omega
      generalize scL c (na.take k) = O at *
      go_wp2
      go_quiet ((go_at_call 44; exact quiet_here (CC.out _)))
      go_wp2
      have d2 : (wr.drewN nq).cell? ⟨b, off + k * 2 + 1, none⟩ = some (.int .i64 r.2) := c2
      have hown2 := Try.ownsRow_drewN hown nq
      have HB2 : Hid (Below W.heap.size W (wr.drewN nq)) := below_drewN HB.out nq
      clear c1 c2 hown HB hle
      generalize wr.drewN nq = w2 at d2 hown2 HB2 ⊢
      have HO2 := Lib.hid hown2
      clear hown2
      go_quiet ((go_at_call 44; exact quiet_here (CC.out _)))
      go_wp2_with (at_builtin; refine wpList_append2 rfl (.tmp 35) (.tmp 43) 22 rfl W.heap.size 28 i0 (.agg #[.int .i64 0, .int .i64 0]) 16 Try.underlying22 hi hz0 hz1 hz2 rfl _ _ _ rfl (Try.ownsRow_drewN HO2.out _) _ _ rfl rfl rfl rfl (by omega) HB2.out.size ?_; intro v1 w1 o1 b1 n1)
      refine ⟨⟨k + 1, by omega, by go_num, ?_, (below_drewN HB2.out _).trans b1⟩, by simp [intOf]; omega⟩
      rw [HT.out, List.length_append, cellsR_append]
      exact o1
    · obtain rfl : k = na.length := by omega
      rw [List.take_length] at hown
      obtain ⟨oa, oc, rfl, _⟩ := (SlAt.of_own hown).shape
      have CF := Lib.hid (CN.out _ _ wr (RgAt.own hown) (by rw [scL_length]; omega))
      rw [HE.out] at CF
      clear hown
      generalize (scL c na).length = m at *
      go_wp2_with (go_at_call 18; (with_reducible refine CF.out.mono ?_); rintro e W2 ⟨a2, c2, rfl, hr2, hb2⟩)
      go_ret
      exact ⟨_, _, rfl, hr2, HW.out.trans ((HB.out.trans (hb2.mono hle)).mono HW.out.size)⟩
end Go.Proofs.Ytlihgipfimdlpaa
