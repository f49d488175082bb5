/-
  WHETHER TWO LISTS OF SETS ARE THE SAME, walked.
  SUMS AND LISTS OF SETS THAT COME IN.
  LISTS OF uint16 THAT COME IN.
-/
import Derived.Test.YtajooiainglpmaaKlin2
import Derived.Test.YtajooiainglpmaaKdom2
import Derived.Deep.QuietTactic
import Derived.BigQuiet
import Derived.Test.YtajooiainglpmaaKdom4
import Derived.Test.YtajooiainglpmaaKlin5
namespace Go.Proofs.Ytajooiainglpmaa
open Go.RowKit

set_option maxRecDepth 100000 in
set_option maxHeartbeats 3200000 in
theorem sameDs_c (va vb : Value) (la lb : Ds) (w : World) (ha : DsAt w va la) (hb : DsAt w vb lb) (hla : la.length ≤ 4096) (hda : ∀ d ∈ la, d.length ≤ 4096) :
    Calls Try.prog 10 #[va, vb] w fun e w' => e = .returned (.bool (decide (la = lb))) ∧ Below w.heap.size w w' := by
  obtain ⟨ao, cap, rfl, _⟩ := ha.shape
  obtain ⟨ao2, cap2, rfl, _⟩ := hb.shape
  have HA := Lib.hid ha
  have HB := Lib.hid hb
  have HDA := Lib.hid hda
  clear ha hb hda
  by_cases h1 : la.length = lb.length
  case neg =>
    have hne : ((la.length : Int) != lb.length) = true := by simp; omega
    have H1 := Lib.hid h1
    clear h1
    go_enter Try.func10, Try.ntmps10
    go_wp2
    go_ret
    exact ⟨ret_bool (by symm; simp; intro h; exact H1.out (by rw [h])), Below.refl _ _⟩
  case pos =>
    have H1 := Lib.hid h1
    have hne : ((la.length : Int) != lb.length) = false := by rw [h1]; simp
    clear h1
    go_enter Try.func10, Try.ntmps10
    go_wp2
    go_loopw [5] (fun s wr => ∃ k : Nat, k ≤ la.length ∧ s = .int .i64 k ∧ Hid (la.take k = lb.take k) ∧ Hid (Below w.heap.size w wr)) (fun s _ => la.length - (intOf s).toNat)
    case atStart => exact ⟨0, by omega, rfl, rfl, Lib.hid (Below.refl _ _)⟩
    case round =>
      obtain ⟨k, hk, rfl, HE, HW⟩ := hrel
      by_cases hlt : k < la.length
      · have hlb : k < lb.length := by have := H1.out; omega
        obtain ⟨b1, o1, a1, c1, rfl, q1, q2, hj1, hc1, hr1⟩ := HA.out.get k hlt
        obtain ⟨b2, o2, a2, c2, rfl, q3, q4, hj2, hc2, hr2⟩ := HB.out.get k hlb
        clear hj1 hj2
        have j1 : (k : Int) < la.length := by omega
        have j2 : (k : Int) < lb.length := by omega
        rw [← HW.out.cell (p := ⟨b1, o1 + k, none⟩) q2] at hc1
        rw [← HW.out.cell (p := ⟨b2, o2 + k, none⟩) q4] at hc2
        have HS : Hid (la[k] = lb[k] → la.take (k + 1) = lb.take (k + 1)) := fun h => by
          rw [List.take_succ_eq_append_getElem hlt, List.take_succ_eq_append_getElem hlb, HE.out, h]
        have HN : Hid (la[k] ≠ lb[k] → la ≠ lb) := fun h he => by subst he; exact h rfl
        have hdl := HDA.out _ (List.getElem_mem hlt)
        have HR1 := Lib.hid hr1
        have HR2 := Lib.hid hr2
        clear hr1 hr2
        generalize la[k] = x at *
        generalize lb[k] = y at *
        have C1 := Lib.hid ((HW.out.cell (p := ⟨b1, o1 + k, none⟩) q2).symm.trans hc1)
        have C2 := Lib.hid ((HW.out.cell (p := ⟨b2, o2 + k, none⟩) q4).symm.trans hc2)
        by_cases hxy : x.length = y.length
        case neg =>
          have hn2 : ((x.length : Int) != y.length) = true := by simp; omega
          have HXY := Lib.hid hxy
          clear hxy
          go_wp2
          go_quiet (fail)
          go_wp2
          go_ret
          exact ⟨ret_bool (by symm; simp; exact HN.out (fun h => HXY.out (by rw [h]))), below_drewN HW.out _⟩
        case pos =>
          have hn2 : ((x.length : Int) != y.length) = false := by rw [hxy]; simp
          have HXY := Lib.hid hxy
          clear hxy
          go_wp2
          go_quiet (fail)
          go_wp2
          have HW2 := Lib.hid (below_drewN HW.out nq)
          clear hc1 hc2
          generalize wr.drewN nq = wo at *
          go_loopw [6] (fun s wr => ∃ j : Nat, j ≤ x.length ∧ s = .int .i64 j ∧ Hid (x.take j = y.take j) ∧ Hid (Below w.heap.size w wr)) (fun s _ => x.length - (intOf s).toNat)
          case atStart => exact ⟨0, by omega, rfl, rfl, HW2⟩
          case round =>
            obtain ⟨j, hj, rfl, HF, HV⟩ := hrel
            have hc1 := (HV.out.cell (p := ⟨b1, o1 + k, none⟩) q2).trans C1.out
            have hc2 := (HV.out.cell (p := ⟨b2, o2 + k, none⟩) q4).trans C2.out
            by_cases hjt : j < x.length
            · have hjy : j < y.length := by have := HXY.out; omega
              obtain ⟨b3, o3, c3, he3, hcap3, hbs3, hc3⟩ := RgAt.at HR1.out (by omega)
              simp only [Value.slice.injEq, true_and] at he3
              obtain ⟨rfl, rfl⟩ := he3
              obtain ⟨b4, o4, c4, he4, hcap4, hbs4, hc4⟩ := RgAt.at HR2.out (by omega)
              simp only [Value.slice.injEq, true_and] at he4
              obtain ⟨rfl, rfl⟩ := he4
              obtain ⟨d1, d2⟩ := hc3 j hjt
              obtain ⟨d3, d4⟩ := hc4 j hjy
              rw [← HV.out.cell (p := ⟨b3, o3 + j * 2, none⟩) hbs3] at d1
              rw [← HV.out.cell (p := ⟨b3, o3 + j * 2 + 1, none⟩) hbs3] at d2
              rw [← HV.out.cell (p := ⟨b4, o4 + j * 2, none⟩) hbs4] at d3
              rw [← HV.out.cell (p := ⟨b4, o4 + j * 2 + 1, none⟩) hbs4] at d4
              have i1 : (j : Int) < x.length := by omega
              have i2 : (j : Int) < y.length := by omega
              have HS2 : Hid (x[j] = y[j] → x.take (j + 1) = y.take (j + 1)) := fun h => by
                rw [List.take_succ_eq_append_getElem hjt, List.take_succ_eq_append_getElem hjy, HF.out, h]
              have HN2 : Hid (x[j] ≠ y[j] → la ≠ lb) := fun h => HN.out (fun he => by subst he; exact h rfl)
              clear hc3 hc4
              generalize x[j] = r at *
              generalize y[j] = s at *
              have f1 := neqRg r s
              have f2 := guardRg .neq
              by_cases hrs : r = s
              · have hd : decide (r ≠ s) = false := by simp [hrs]
                rw [hd] at f1
                have HRS := Lib.hid hrs
                clear hrs hd
                go_wp2
                go_quiet (fail)
                go_wp2
                exact ⟨⟨j + 1, by omega, by go_num, Lib.hid (HS2.out HRS.out), Lib.hid (below_drewN HV.out _)⟩, by simp [intOf]; omega⟩
              · have hd : decide (r ≠ s) = true := by simp [hrs]
                rw [hd] at f1
                have HRS := Lib.hid hrs
                clear hrs hd
                go_wp2
                go_quiet (fail)
                go_wp2
                go_ret
                exact ⟨ret_bool (by symm; simp; exact HN2.out HRS.out), below_drewN HV.out _⟩
            · obtain rfl : j = x.length := by omega
              have HXE : Hid (x = y) := by
                have h := HF.out
                rw [List.take_length, HXY.out, List.take_length] at h
                exact h
              go_wp2
              exact ⟨⟨k + 1, by omega, by go_num, Lib.hid (HS.out HXE.out), HV⟩, by simp [intOf]; omega⟩
      · obtain rfl : k = la.length := by omega
        have HXE : Hid (la = lb) := by
          have h := HE.out
          rw [List.take_length, H1.out, List.take_length] at h
          exact h
        go_wp2
        go_ret
        exact ⟨ret_bool (by symm; simpa using HXE.out), HW.out⟩
end Go.Proofs.Ytajooiainglpmaa
namespace Go.Proofs.Ytajooiainglpmaa
open Go.RowKit Go.ChangeShapes Go.WideShapes Go.ChangeAt

theorem cellsRgsL : Try.prog.cellsOf 25 = 1 := by kernel_rfl
set_option maxRecDepth 100000 in
theorem rgs_of {H : Type} {enc : TypeId × Value → H} {w : World} {sp : Nat → Bool} {held : Bool} {fuel : Nat} {v : Value} {y : DataW H × List MemPlace}
    (h : DataW.trod enc Try.prog w 0 sp held fuel 25 [v] = some y) : ∃ rs : List Rg, RgAt w v rs := by
  obtain ⟨d, ps⟩ := y
  obtain ⟨n, xs, hS, hE⟩ := open_sl (k := 2) Try.underlying25 cellsRg h
  have hl := hS.len
  have hx : ∀ i, i < n → ∃ r : Rg, xs[i * 2]? = some (.int .i64 r.1) ∧ xs[i * 2 + 1]? = some (.int .i64 r.2) := fun i hi => by
    obtain ⟨m, y, hy⟩ := hE i hi
    obtain ⟨x0, x1, e0, e1, e2⟩ := pair_cut hl hi
    rw [e2] at hy
    obtain ⟨y0, y1, q, _, _, t0, t1⟩ := trod_struct2 Try.underlying28 hy
    obtain ⟨z0, hz0, _, _⟩ := DataW.trod_int Try.underlying3 t0
    obtain ⟨z1, hz1, _, _⟩ := DataW.trod_int Try.underlying3 t1
    refine ⟨(z0, z1), ?_, ?_⟩
    · rw [e0]; simp [cellsInt] at hz0; rw [hz0]
    · rw [e1]; simp [cellsInt] at hz1; rw [hz1]
  obtain ⟨f, hf⟩ := Deep.choose_lt hx
  refine ⟨(List.range n).map f, ?_⟩
  have e : xs = cellsR ((List.range n).map f) := by
    apply List.ext_getElem?
    intro t
    by_cases ht : t < n * 2
    · have hd : t / 2 < ((List.range n).map f).length := by simp; omega
      obtain ⟨a, b⟩ := cellsR_at ((List.range n).map f) (t / 2) hd
      obtain ⟨f0, f1⟩ := hf (t / 2) (by omega)
      have e3 : ((List.range n).map f)[t / 2] = f (t / 2) := by simp
      rw [e3] at a b
      rcases (show t % 2 = 0 ∨ t % 2 = 1 by omega) with h | h
      · rw [show xs[t]? = xs[t / 2 * 2]? by congr 1; omega, f0, show (cellsR ((List.range n).map f))[t]? = (cellsR ((List.range n).map f))[t / 2 * 2]? by congr 1; omega, a]
      · rw [show xs[t]? = xs[t / 2 * 2 + 1]? by congr 1; omega, f1, show (cellsR ((List.range n).map f))[t]? = (cellsR ((List.range n).map f))[t / 2 * 2 + 1]? by congr 1; omega, b]
    · rw [List.getElem?_eq_none (by omega), List.getElem?_eq_none (by rw [cellsR_length]; simp; omega)]
  unfold RgAt
  rw [← e]
  simpa using hS
set_option maxRecDepth 100000 in
theorem open_dss {H : Type} {enc : TypeId × Value → H} {w : World} {sp : Nat → Bool} {held : Bool} {base : Nat} {v : Value} {d : DataW H} {ps : List MemPlace}
    (hval : Value.okWide Try.prog w .any base 23 v) (h0 : DataW.Trod enc Try.prog w 0 sp held 23 v d ps) : ∃ ds : Ds, DsAt w v ds := by
  obtain ⟨a0, l0, c0, rfl⟩ := okWide_slice Try.underlying23 hval
  obtain ⟨fuel, h⟩ := Joins.field_of_Trod h0 rfl
  obtain ⟨n, us, hS, hE⟩ := open_sl (k := 1) Try.underlying23 cellsRgsL h
  have hl := hS.len
  have hx : ∀ i, i < n → ∃ r : List Rg, ∃ u, us[i]? = some u ∧ RgAt w u r := fun i hi => by
    obtain ⟨m, y, hy⟩ := hE i hi
    have hi' : i < us.length := by omega
    have e : (us.drop (i * 1)).take 1 = [us[i]] := by rw [Nat.mul_one, List.drop_eq_getElem_cons hi']; rfl
    rw [e] at hy
    obtain ⟨rs, hr⟩ := rgs_of hy
    exact ⟨rs, us[i], List.getElem?_eq_getElem hi', hr⟩
  obtain ⟨f, hf⟩ := Deep.choose_lt hx
  refine ⟨(List.range n).map f, us, by simp; omega, by simpa using hS, fun j hj => ?_⟩
  have hj' : j < n := by simpa using hj
  obtain ⟨u, e1, e2⟩ := hf j hj'
  exact ⟨u, e1, by simpa using e2⟩
/-- a slice of integers that comes in -/
theorem open_isL {H : Type} {enc : TypeId × Value → H} {w : World} {sp : Nat → Bool} {held : Bool} {fuel : Nat} {v : Value} {y : DataW H × List MemPlace}
    (h : DataW.trod enc Try.prog w 0 sp held fuel 24 [v] = some y) : ∃ zs : List Int, IsAt w v zs ∧ ∀ z ∈ zs, -9223372036854775808 ≤ z ∧ z ≤ 9223372036854775807 := by
  obtain ⟨d, ps⟩ := y
  obtain ⟨n, xs, hS, hE⟩ := open_sl (k := 1) Try.underlying24 cellsInt h
  have hx : ∀ i, i < n → ∃ z : Int, xs[i]? = some (.int .i64 z) ∧ (Lit.int .i64 z).wf = true := fun i hi => by
    obtain ⟨m, y, hy⟩ := hE i hi
    obtain ⟨z, hz, _, hwf⟩ := DataW.trod_int Try.underlying3 hy
    refine ⟨z, ?_, hwf⟩
    have := congrArg (·[0]?) hz
    simpa [List.getElem?_take, List.getElem?_drop] using this
  obtain ⟨f, hf⟩ := Deep.choose_lt hx
  have hl := hS.len
  have e : xs = ((List.range n).map f).map (Value.int .i64) := by
    apply List.ext_getElem?
    intro i
    by_cases hi : i < n
    · rw [(hf i hi).1]; simp [hi]
    · rw [List.getElem?_eq_none (by omega), List.getElem?_eq_none (by simp; omega)]
  refine ⟨(List.range n).map f, ?_, fun z hz => ?_⟩
  · unfold IsAt
    rw [← e]
    simpa using hS
  · obtain ⟨i, hi, rfl⟩ := List.mem_map.1 hz
    have := (hf i (by simpa using hi)).2
    simpa [Lit.wf, IntKind.min, IntKind.max, IntKind.bits, IntKind.signed] using this
theorem cellsLinL : Try.prog.cellsOf 32 = 4 := by kernel_rfl
set_option maxRecDepth 100000 in
/-- a sum that comes in -/
theorem open_lin {H : Type} {enc : TypeId × Value → H} {w : World} {base : Nat} {sp : Nat → Bool} {held : Bool} {v : Value} {d : DataW H} {ps : List MemPlace}
    (hval : Value.okWide Try.prog w .any base 32 v) (h : DataW.Trod enc Try.prog w 0 sp held 32 v d ps) :
    ∃ va vb rel c, ∃ coef vars : List Int, v = .agg #[va, vb, .int .i64 rel, .int .i64 c] ∧ IsAt w va coef ∧ IsAt w vb vars ∧ ((∀ z ∈ coef, -9223372036854775808 ≤ z ∧ z ≤ 9223372036854775807) ∧ (∀ z ∈ vars, -9223372036854775808 ≤ z ∧ z ≤ 9223372036854775807) ∧ (-9223372036854775808 ≤ rel ∧ rel ≤ 9223372036854775807) ∧ (-9223372036854775808 ≤ c ∧ c ≤ 9223372036854775807)) := by
  obtain ⟨c0, c1, c2, c3, y0, y1, y2, y3, m, rfl, rfl, rfl, h0, h1, h2, h3⟩ := Joins.open_agg4 Try.underlying32 (by kernel_rfl) cellsLinL hval h
  obtain ⟨z0, i0, b0⟩ := open_isL h0
  obtain ⟨z1, i1, b1⟩ := open_isL h1
  obtain ⟨r, e2, _, w2⟩ := DataW.trod_int Try.underlying3 h2
  obtain ⟨c, e3, _, w3⟩ := DataW.trod_int Try.underlying3 h3
  simp at e2 e3
  subst e2 e3
  exact ⟨c0, c1, r, c, z0, z1, rfl, i0, i1, b0, b1, by simpa [Lit.wf, IntKind.min, IntKind.max, IntKind.bits, IntKind.signed] using w2, by simpa [Lit.wf, IntKind.min, IntKind.max, IntKind.bits, IntKind.signed] using w3⟩
end Go.Proofs.Ytajooiainglpmaa
namespace Go.Proofs.Ytajooiainglpmaa
open Go.RowKit Go.ChangeShapes Go.WideShapes Go.ChangeAt

theorem cellsU16 : Try.prog.cellsOf 70 = 1 := by kernel_rfl
set_option maxRecDepth 100000 in
theorem open_u16s {H : Type} {enc : TypeId × Value → H} {w : World} {sp : Nat → Bool} {held : Bool} {base : Nat} {v : Value} {d : DataW H} {ps : List MemPlace}
    (hval : Value.okWide Try.prog w .any base 39 v) (h0 : DataW.Trod enc Try.prog w 0 sp held 39 v d ps) : ∃ zs : List Int, SlAt w 1 v zs.length (zs.map (Value.int .u16)) ∧ ∀ z ∈ zs, 0 ≤ z ∧ z ≤ 65535 := by
  obtain ⟨a0, l0, c0, rfl⟩ := okWide_slice Try.underlying39 hval
  obtain ⟨fuel, h⟩ := Joins.field_of_Trod h0 rfl
  obtain ⟨n, xs, hS, hE⟩ := open_sl (k := 1) Try.underlying39 cellsU16 h
  have hx : ∀ i, i < n → ∃ z : Int, xs[i]? = some (.int .u16 z) ∧ (Lit.int .u16 z).wf = true := fun i hi => by
    obtain ⟨m, y, hy⟩ := hE i hi
    obtain ⟨z, hz, _, hwf⟩ := DataW.trod_int Try.underlying70 hy
    refine ⟨z, ?_, hwf⟩
    have := congrArg (·[0]?) hz
    simpa [List.getElem?_take, List.getElem?_drop] using this
  obtain ⟨f, hf⟩ := Deep.choose_lt hx
  have hl := hS.len
  have e : xs = ((List.range n).map f).map (Value.int .u16) := by
    apply List.ext_getElem?
    intro i
    by_cases hi : i < n
    · rw [(hf i hi).1]; simp [hi]
    · rw [List.getElem?_eq_none (by omega), List.getElem?_eq_none (by simp; omega)]
  refine ⟨(List.range n).map f, ?_, fun z hz => ?_⟩
  · rw [← e]
    simpa using hS
  · obtain ⟨i, hi, rfl⟩ := List.mem_map.1 hz
    have := (hf i (by simpa using hi)).2
    simpa [Lit.wf, IntKind.min, IntKind.max, IntKind.bits, IntKind.signed] using this
end Go.Proofs.Ytajooiainglpmaa
