/-
  WHETHER TWO LISTS OF SETS ARE THE SAME, walked.
-/
import Derived.Test.YtmmogifmogdegaaDs
import Derived.Test.YtmmogifmogdegaaEq
import Derived.Deep.QuietTactic
import Derived.BigQuiet
namespace Go.Proofs.Ytmmogifmogdegaa
open Go.RowKit

set_option maxRecDepth 100000 in
set_option maxHeartbeats 3200000 in
theorem sameDs_c (va vb : Value) (la lb : Ds) (w : World) (ha : DsAt w va la) (hb : DsAt w vb lb) (hla : la.length ≤ 4096) (hda : ∀ d ∈ la, d.length ≤ 4096) :
    Calls Try.prog 15 #[va, vb] w fun e w' => e = .returned (.bool (decide (la = lb))) ∧ Below w.heap.size w w' := by
  obtain ⟨ao, cap, rfl, _⟩ := ha.shape
  obtain ⟨ao2, cap2, rfl, _⟩ := hb.shape
  have HA := Lib.hid ha
  have HB := Lib.hid hb
  have HDA := Lib.hid hda
  clear ha hb hda
  by_cases h1 : la.length = lb.length
  case neg =>
    have hne : ((la.length : Int) != lb.length) = true := by simp; omega
    have H1 := Lib.hid h1
    clear h1
    go_enter Try.func15, Try.ntmps15
    go_wp2
    go_ret
    exact ⟨ret_bool (by symm; simp; intro h; exact H1.out (by rw [h])), Below.refl _ _⟩
  case pos =>
    have H1 := Lib.hid h1
    have hne : ((la.length : Int) != lb.length) = false := by rw [h1]; simp
    clear h1
    go_enter Try.func15, Try.ntmps15
    go_wp2
    go_loopw [5] (fun s wr => ∃ k : Nat, k ≤ la.length ∧ s = .int .i64 k ∧ Hid (la.take k = lb.take k) ∧ Hid (Below w.heap.size w wr)) (fun s _ => la.length - (intOf s).toNat)
    case atStart => exact ⟨0, by omega, rfl, rfl, Lib.hid (Below.refl _ _)⟩
    case round =>
      obtain ⟨k, hk, rfl, HE, HW⟩ := hrel
      by_cases hlt : k < la.length
      · have hlb : k < lb.length := by have := H1.out; omega
        obtain ⟨b1, o1, a1, c1, rfl, q1, q2, hj1, hc1, hr1⟩ := HA.out.get k hlt
        obtain ⟨b2, o2, a2, c2, rfl, q3, q4, hj2, hc2, hr2⟩ := HB.out.get k hlb
        clear hj1 hj2
        have j1 : (k : Int) < la.length := by omega
        have j2 : (k : Int) < lb.length := by omega
        rw [← HW.out.cell (p := ⟨b1, o1 + k, none⟩) q2] at hc1
        rw [← HW.out.cell (p := ⟨b2, o2 + k, none⟩) q4] at hc2
        have HS : Hid (la[k] = lb[k] → la.take (k + 1) = lb.take (k + 1)) := fun h => by
          rw [List.take_succ_eq_append_getElem hlt, List.take_succ_eq_append_getElem hlb, HE.out, h]
        have HN : Hid (la[k] ≠ lb[k] → la ≠ lb) := fun h he => by subst he; exact h rfl
        have hdl := HDA.out _ (List.getElem_mem hlt)
        have HR1 := Lib.hid hr1
        have HR2 := Lib.hid hr2
        clear hr1 hr2
        generalize la[k] = x at *
        generalize lb[k] = y at *
        have C1 := Lib.hid ((HW.out.cell (p := ⟨b1, o1 + k, none⟩) q2).symm.trans hc1)
        have C2 := Lib.hid ((HW.out.cell (p := ⟨b2, o2 + k, none⟩) q4).symm.trans hc2)
        by_cases hxy : x.length = y.length
        case neg =>
          have hn2 : ((x.length : Int) != y.length) = true := by simp; omega
          have HXY := Lib.hid hxy
          clear hxy
          go_wp2
          go_quiet (fail)
          go_wp2
          go_ret
          exact ⟨ret_bool (by symm; simp; exact HN.out (fun h => HXY.out (by rw [h]))), below_drewN HW.out _⟩
        case pos =>
          have hn2 : ((x.length : Int) != y.length) = false := by rw [hxy]; simp
          have HXY := Lib.hid hxy
          clear hxy
          go_wp2
          go_quiet (fail)
          go_wp2
          have HW2 := Lib.hid (below_drewN HW.out nq)
          clear hc1 hc2
          generalize wr.drewN nq = wo at *
          go_loopw [6] (fun s wr => ∃ j : Nat, j ≤ x.length ∧ s = .int .i64 j ∧ Hid (x.take j = y.take j) ∧ Hid (Below w.heap.size w wr)) (fun s _ => x.length - (intOf s).toNat)
          case atStart => exact ⟨0, by omega, rfl, rfl, HW2⟩
          case round =>
            obtain ⟨j, hj, rfl, HF, HV⟩ := hrel
            have hc1 := (HV.out.cell (p := ⟨b1, o1 + k, none⟩) q2).trans C1.out
            have hc2 := (HV.out.cell (p := ⟨b2, o2 + k, none⟩) q4).trans C2.out
            by_cases hjt : j < x.length
            · have hjy : j < y.length := by have := HXY.out; omega
              obtain ⟨b3, o3, c3, he3, hcap3, hbs3, hc3⟩ := RgAt.at HR1.out (by omega)
              simp only [Value.slice.injEq, true_and] at he3
              obtain ⟨rfl, rfl⟩ := he3
              obtain ⟨b4, o4, c4, he4, hcap4, hbs4, hc4⟩ := RgAt.at HR2.out (by omega)
              simp only [Value.slice.injEq, true_and] at he4
              obtain ⟨rfl, rfl⟩ := he4
              obtain ⟨d1, d2⟩ := hc3 j hjt
              obtain ⟨d3, d4⟩ := hc4 j hjy
              rw [← HV.out.cell (p := ⟨b3, o3 + j * 2, none⟩) hbs3] at d1
              rw [← HV.out.cell (p := ⟨b3, o3 + j * 2 + 1, none⟩) hbs3] at d2
              rw [← HV.out.cell (p := ⟨b4, o4 + j * 2, none⟩) hbs4] at d3
              rw [← HV.out.cell (p := ⟨b4, o4 + j * 2 + 1, none⟩) hbs4] at d4
              have i1 : (j : Int) < x.length := by omega
              have i2 : (j : Int) < y.length := by omega
              have HS2 : Hid (x[j] = y[j] → x.take (j + 1) = y.take (j + 1)) := fun h => by
                rw [List.take_succ_eq_append_getElem hjt, List.take_succ_eq_append_getElem hjy, HF.out, h]
              have HN2 : Hid (x[j] ≠ y[j] → la ≠ lb) := fun h => HN.out (fun he => by subst he; exact h rfl)
              clear hc3 hc4
              generalize x[j] = r at *
              generalize y[j] = s at *
              have f1 := neqRg r s
              have f2 := guardRg .neq
              by_cases hrs : r = s
              · have hd : decide (r ≠ s) = false := by simp [hrs]
                rw [hd] at f1
                have HRS := Lib.hid hrs
                clear hrs hd
                go_wp2
                go_quiet (fail)
                go_wp2
                exact ⟨⟨j + 1, by omega, by go_num, Lib.hid (HS2.out HRS.out), Lib.hid (below_drewN HV.out _)⟩, by simp [intOf]; omega⟩
              · have hd : decide (r ≠ s) = true := by simp [hrs]
                rw [hd] at f1
                have HRS := Lib.hid hrs
                clear hrs hd
                go_wp2
                go_quiet (fail)
                go_wp2
                go_ret
                exact ⟨ret_bool (by symm; simp; exact HN2.out HRS.out), below_drewN HV.out _⟩
            · obtain rfl : j = x.length := by omega
              have HXE : Hid (x = y) := by
                have h := HF.out
                rw [List.take_length, HXY.out, List.take_length] at h
                exact h
              go_wp2
              exact ⟨⟨k + 1, by omega, by go_num, Lib.hid (HS.out HXE.out), HV⟩, by simp [intOf]; omega⟩
      · obtain rfl : k = la.length := by omega
        have HXE : Hid (la = lb) := by
          have h := HE.out
          rw [List.take_length, H1.out, List.take_length] at h
          exact h
        go_wp2
        go_ret
        exact ⟨ret_bool (by symm; simpa using HXE.out), HW.out⟩
end Go.Proofs.Ytmmogifmogdegaa
