/-
  coneyref14.cut, .Shift, .Scale, .Ends, .Size, .At, walked.
  dom.Has, walked.
  coneyref14.Shift, .Scale, walked.
  coneyref14.Scale, walked.
  A LIST OF RANGES THAT COMES IN.
  A LIST OF SMALL INTEGERS THAT COMES IN.
-/
import Derived.Test.YtajooiainglpmaaKdom3
import Derived.Test.YtajooiainglpmaaKdom1
import Derived.Shelf.SlicesQ.IndexFunc
import Derived.Lib.SliceRun
import Derived.Deep.AppendLies
import Derived.Deep.RegionHeldLaw
import Derived.Test.YtajooiainglpmaaKdom2
import Derived.Test.YtajooiainglpmaaKlib1
import Derived.Lib.SmallJoins
namespace Go.Proofs.Ytajooiainglpmaa
open Go.RowKit

set_option maxRecDepth 100000 in
set_option maxHeartbeats 800000 in
theorem refSize_c (va : Value) (a : List Rg) (w : World) (ha : RgAt w va a) (hla : a.length ≤ 4096) :
    Calls Try.prog 11 #[va] w fun e w' => e = .returned (.int .i64 (sizeL (norm a))) ∧ Below w.heap.size w w' := by
  obtain ⟨ao, cap, rfl, _⟩ := ha.shape
  have CA : Hid (Calls Try.prog 26 #[.slice ao a.length cap] w (RetR (norm a) w)) := refNorm_c _ _ w ha hla
  have HBD : Hid (∀ p ∈ norm a, -200 ≤ p.1 ∧ p.1 ≤ p.2 ∧ p.2 ≤ 200) := norm_bounds a
  have HS : Hid (∀ k, 0 ≤ sizeL ((norm a).take k) ∧ sizeL ((norm a).take k) ≤ 402) := fun k => sizeL_bounds _ (-200) (by decide) ((norm_normal a).take k)
  have hln : (norm a).length ≤ 201 := norm_len a
  clear ha
  generalize hNA : norm a = na at CA hln HBD HS ⊢
  clear hNA
  go_enter Try.func11, Try.ntmps11
  go_wp2_with (first
    | (go_at_call 26; (with_reducible refine CA.out.mono ?_); rintro e W ⟨a1, c1, rfl, hr1, hb1⟩; have HR1 := Lib.hid hr1; have HW := Lib.hid hb1; clear hr1 hb1))
  go_loopw [4, 5] (fun f s wr => ∃ k q : Nat, ∃ fz : Int, k ≤ na.length ∧ s = .int .i64 k ∧ f = .int .i64 fz ∧ fz = sizeL (na.take k) ∧ wr = W.drewN q) (fun _ s _ => na.length - (intOf s).toNat)
  case atStart => exact ⟨0, 0, 0, by omega, rfl, rfl, rfl, rfl⟩
  case round =>
    obtain ⟨k, q, fz, hk, rfl, rfl, hf, rfl⟩ := hrel
    have HF := Lib.hid hf
    have hfb := HS.out k
    rw [← HF.out] at hfb
    obtain ⟨hf1, hf2⟩ := hfb
    clear hf
    by_cases hlt : k < na.length
    · obtain ⟨b, off, c', he, hcap, hbs, hc⟩ := RgAt.at HR1.out (by omega)
      simp only [Value.slice.injEq, true_and] at he
      obtain ⟨rfl, rfl⟩ := he
      obtain ⟨c1, c2⟩ := hc k hlt
      have hbd := HBD.out _ (List.getElem_mem hlt)
      have HT : Hid (sizeL (na.take (k + 1)) = fz + (na[k].2 - na[k].1 + 1)) := by
        show _ = _
        rw [List.take_succ_eq_append_getElem hlt, sizeL_append, HF.out]; simp only [sizeL]; omega
      obtain ⟨r, hr⟩ : ∃ r, r = na[k] := ⟨_, rfl⟩
      rw [← hr] at c1 c2 HT hbd
      clear hc hr
      obtain ⟨hd1, hd2, hd3⟩ := hbd
      go_wp2
      go_quiet (fail)
      go_wp2
      refine ⟨⟨k + 1, q + nq, fz + r.2 - r.1 + 1, by omega, by go_num, by first | rfl | go_num, by rw [HT.out]; omega, rfl⟩, by simp [intOf]; omega⟩
    · obtain rfl : k = na.length := by omega
      go_wp2
      go_ret
      exact ⟨ret_int (by rw [HF.out, List.take_length]), below_drewN HW.out _⟩
set_option maxRecDepth 100000 in
set_option maxHeartbeats 800000 in
theorem refAt_c (va : Value) (a : List Rg) (i : Int) (w : World) (ha : RgAt w va a) (hla : a.length ≤ 4096) (hi0 : -9223372036854775808 ≤ i ∧ i ≤ 9223372036854775807) :
    Calls Try.prog 31 #[va, .int .i64 i] w fun e w' => e = .returned (atV (if i < 0 then none else atL (norm a) i)) ∧ w = w' := by
  obtain ⟨ao, cap, rfl, _⟩ := ha.shape
  have CH : Hid (∀ n, Calls Try.prog 7 #[.slice ao a.length cap, .int .i64 n] w fun e w' => e = .returned (.bool (inD n && memL a n)) ∧ w = w') := fun n => refHas_c _ a n w ha hla
  by_cases hneg : i < 0
  · clear CH
    go_enter Try.func31, Try.ntmps31
    go_wp2
    go_loop [1, 6] (fun f s => f = .int .i64 i ∧ s = .int .i64 (-200)) (fun _ s => 0)
    case atStart => exact ⟨rfl, rfl⟩
    case round =>
      obtain ⟨rfl, rfl⟩ := hrel
      go_wp2
      go_ret2
      exact ⟨rfl, rfl⟩
  have HA : Hid ((if i < 0 then none else atL (norm a) i) = seek (memL a) 401 (-200) i) := by
    show _ = _
    rw [if_neg hneg, norm, atL_canon _ i (by omega)]
  rw [HA.out]
  clear HA ha
  generalize hres : seek (memL a) 401 (-200) i = RES
  have HRES := Lib.hid hres
  clear hres
  obtain ⟨hi1, hi2⟩ := hi0
  go_enter Try.func31, Try.ntmps31
  go_wp2
  go_loop [1, 6] (fun f s => ∃ k : Nat, ∃ fz : Int, k ≤ 401 ∧ s = .int .i64 (201 - (k : Int)) ∧ f = .int .i64 fz ∧ 0 ≤ fz ∧ fz ≤ 9223372036854775807 ∧ RES = seek (memL a) k (201 - (k : Int)) fz) (fun _ s => (201 - intOf s).toNat)
  case atStart => exact ⟨401, i, by omega, rfl, rfl, by omega, by omega, HRES.out.symm⟩
  case round =>
    obtain ⟨k, fz, hk, rfl, rfl, hf1, hf2, hf⟩ := hrel
    cases k with
    | zero =>
      have HF := Lib.hid hf
      clear hf
      go_wp2
      go_ret2
      exact ⟨by rw [HF.out]; rfl, rfl⟩
    | succ k =>
      have CH2 := Lib.hid (CH.out (201 - ((k + 1 : Nat) : Int)))
      have hin : inD (201 - ((k + 1 : Nat) : Int)) = true := by simp [inD]; omega
      rw [hin, Bool.true_and] at CH2
      rw [seek] at hf
      have hn : 201 - ((k + 1 : Nat) : Int) + 1 = 201 - (k : Int) := by push_cast; omega
      rw [hn] at hf
      have hb1 : -200 ≤ 201 - ((k + 1 : Nat) : Int) := by omega
      have hb2 : 201 - ((k + 1 : Nat) : Int) ≤ 200 := by omega
      generalize 201 - ((k + 1 : Nat) : Int) = n at *
      generalize memL a n = xa at *
      cases xa
      · have HF : Hid (RES = seek (memL a) k (201 - (k : Int)) fz) := hf
        clear hf
        go_wp2_with (go_at_call 7; (with_reducible refine CH2.out.mono ?_); rintro e w' ⟨rfl, rfl⟩)
        exact ⟨⟨k, fz, by omega, by rw [← hn], rfl, hf1, hf2, HF.out⟩, by simp [intOf]; omega⟩
      · by_cases h0 : fz = 0
        · subst h0
          have HF : Hid (RES = some n) := hf
          clear hf
          go_wp2_with (go_at_call 7; (with_reducible refine CH2.out.mono ?_); rintro e w' ⟨rfl, rfl⟩)
          go_ret2
          exact ⟨by rw [HF.out]; rfl, rfl⟩
        · have hz : (fz == 0) = false := by simpa using h0
          have HF : Hid (RES = seek (memL a) k (201 - (k : Int)) (fz - 1)) := by
            show _ = _
            rw [hf, if_pos rfl, if_neg h0]
          clear hf
          go_wp2_with (go_at_call 7; (with_reducible refine CH2.out.mono ?_); rintro e w' ⟨rfl, rfl⟩)
          exact ⟨⟨k, fz - 1, by omega, by rw [← hn], by first | rfl | go_num, by omega, by omega, HF.out⟩, by simp [intOf]; omega⟩
end Go.Proofs.Ytajooiainglpmaa
namespace Go.Proofs.Ytajooiainglpmaa
open Go.RowKit

/-- slices.ContainsFunc of no element -/
theorem contains_none (p : Option Addr) (cap : Nat) (fv : Value) (w : World) :
    Calls Try.prog 114 #[.slice p 0 cap, fv] w fun e w' => e = .returned (.bool false) ∧ w = w' := by
  have CI : Hid (Calls Try.prog 117 #[.slice p 0 cap, fv] w fun e w' => e = .returned (.int .i64 (-1)) ∧ w = w') := by
    show Calls _ _ _ _ _
    go_enter Try.func117, Try.ntmps117
    go_wp2
    go_loopw [8] (fun s wr => s = .int .i64 0 ∧ wr = w) (fun _ _ => 0)
    case atStart => exact ⟨rfl, rfl⟩
    case round =>
      obtain ⟨rfl, rfl⟩ := hrel
      go_wp2
      go_ret
      exact ⟨rfl, rfl⟩
  go_enter Try.func114, Try.ntmps114
  go_wp2_with (go_at_call 117; (with_reducible refine CI.out.mono ?_); rintro e w' ⟨rfl, rfl⟩)
  go_ret
  exact ⟨rfl, rfl⟩

set_option maxRecDepth 100000 in
theorem hasFn_c (n : Int) (B : Nat) (w : World) (hB : B < w.heap.size) (hcell : w.cell? ⟨B, 0, none⟩ = some (.int .i64 n)) :
    Go.Proofs.PredBelow Try.prog 115 #[.pointer (some ⟨B, 0, none⟩)] (fun x => .agg (encR x).toArray) (fun x => decide (x.1 ≤ n) && decide (n ≤ x.2)) w := fun W x hb => by
  have hc : W.cell? ⟨B, 0, none⟩ = some (.int .i64 n) := (hb.cell (p := ⟨B, 0, none⟩) hB).trans hcell
  have hBW : B < W.heap.size := Nat.lt_of_lt_of_le hB hb.size
  have hne : B ≠ W.heap.size := by omega
  show Calls Try.prog 115 #[.agg #[.int .i64 x.1, .int .i64 x.2], .pointer (some ⟨B, 0, none⟩)] W _
  by_cases h1 : x.1 ≤ n
  · by_cases h2 : n ≤ x.2
    all_goals
      go_enter Try.func115, Try.ntmps115
      go_wp2
      all_goals (go_ret; exact ⟨ret_bool (by simp [h1, h2]), hb.alloc hb.size _⟩)
  · go_enter Try.func115, Try.ntmps115
    go_wp2
    all_goals (go_ret; exact ⟨ret_bool (by simp; omega), hb.alloc hb.size _⟩)

set_option maxRecDepth 100000 in
set_option maxHeartbeats 800000 in
theorem has_c (va : Value) (a : List Rg) (n : Int) (w : World) (ha : RgAt w va a) (hla : a.length ≤ 4096) :
    Calls Try.prog 112 #[va, .int .i64 n] w fun e w' => e = .returned (.bool (inD n && memL a n)) ∧ Below w.heap.size w w' := by
  obtain ⟨ao, cap, rfl, _⟩ := ha.shape
  by_cases h1 : n < -200
  · go_enter Try.func112, Try.ntmps112
    go_wp2
    go_ret
    exact ⟨ret_bool (by symm; simp [inD]; omega), (Below.refl _ _).alloc (Nat.le_refl _) _⟩
  by_cases h2 : 200 < n
  · go_enter Try.func112, Try.ntmps112
    go_wp2
    go_ret
    exact ⟨ret_bool (by symm; simp [inD]; omega), (Below.refl _ _).alloc (Nat.le_refl _) _⟩
  have HI : Hid ((inD n && memL a n) = memL a n) := by show _ = _; simp [inD, show -200 ≤ n by omega, show n ≤ 200 by omega]
  rw [HI.out]
  clear HI
  have eg : ∀ args w, (callFunc 115 args).run Try.prog w = .ok (.enter 115 args) w := enters_of Try.func115 (by kernel_rfl) rfl
  have CC : Hid (∀ T, Calls Try.prog 114 #[.slice ao a.length cap, .func (.func 115) #[] #[.pointer (some ⟨w.heap.size, 0, none⟩)]] (w.alloc (.cells #[.int .i64 n] T)) fun e w' =>
      e = .returned (.bool (memL a n)) ∧ Below w.heap.size (w.alloc (.cells #[.int .i64 n] T)) w') := fun T => by
    have hb0 : Below w.heap.size w (w.alloc (.cells #[.int .i64 n] T)) := (Below.refl _ _).alloc (Nat.le_refl _) _
    rcases Nat.eq_zero_or_pos a.length with h0 | h0
    · obtain rfl := List.eq_nil_of_length_eq_zero h0
      exact (contains_none ao cap _ _).mono fun e w' ⟨he, hw⟩ => ⟨he, by rw [← hw]; exact Below.refl _ _⟩
    · obtain ⟨b, off, c', he, hcap, hbs, hc⟩ := RgAt.at (ha.below hb0) h0
      simp only [Value.slice.injEq, true_and] at he
      obtain ⟨rfl, rfl⟩ := he
      have hcon := AnyQ.slices_ContainsFunc Try.contRg 2 Try.isAgg28 Try.sizeOf28 encR (fun _ => rfl) (fun x => decide (x.1 ≤ n) && decide (n ≤ x.2)) 115 #[.pointer (some ⟨w.heap.size, 0, none⟩)] eg b off a.length cap a
        (w.alloc (.cells #[.int .i64 n] T)) (hasFn_c n w.heap.size _ (by simp) (by simp)) (Nat.le_refl _) (by omega) hbs (fun j hj i v hi => by
          obtain ⟨e1, e2⟩ := hc j hj
          rw [getElem!_pos a j hj] at hi
          match i, hi with
          | 0, hi => simp [encR] at hi; rw [← hi]; exact e1
          | 1, hi => simp [encR] at hi; rw [← hi]; exact e2
          | i + 2, hi => simp [encR] at hi)
      change Calls Try.prog 114 _ _ _ at hcon
      rw [List.take_length] at hcon
      exact hcon.mono fun e w' ⟨he, hb⟩ => ⟨he, hb.mono (by simp)⟩
  clear ha eg
  generalize memL a n = r at *
  go_enter Try.func112, Try.ntmps112
  go_wp2_with (go_at_call 114; (with_reducible refine (CC.out _).mono ?_); rintro e W ⟨rfl, hb⟩)
  go_ret
  exact ⟨rfl, ((Below.refl _ _).alloc (Nat.le_refl _) _).trans hb⟩
end Go.Proofs.Ytajooiainglpmaa
namespace Go.Proofs.Ytajooiainglpmaa
open Go.RowKit

/-- append of one range at a step of a region that draws -/
theorem step_append2 {P : Program} {ops : Array Oper} {o : Oper} {a : Act} {w : World} {K : Act → World → Prop} {Q : Exit → Act → World → Prop} {E : Prop} (hgd : o.guard = none) (s x : Operand) (t : TypeId)
    (ho : o.op = .call { callee := .builtin .append, args := #[s, x], argTypes := #[t, t] })
    (base : Nat) (e : TypeId) (i : TypeInfo) (z : Value) (bytes : Nat) (ht : P.underlying t = some (.slice e)) (hi : P.info? e = some i) (hz : i.zero = some z)
    (hsize : i.size = 2) (hby : i.bytes = bytes) (hzs : z.cells.size = 2)
    (v : Value) (n : Nat) (xs : List Value) (hs : a.eval s = v) (hown : w.ownsRow base e 2 v n xs)
    (u1 u2 : Value) (g : Nat) (hx : a.eval x = .slice (some ⟨g, 0, none⟩) 1 1) (hc1 : w.cell? ⟨g, 0, none⟩ = some u1) (hc2 : w.cell? ⟨g, 1, none⟩ = some u2) (h1 : u1.oneCell' = true) (h2 : u2.oneCell' = true)
    (hbytes : (n + 1) * bytes ≤ 140737488355328 ∧ n + 1 ≤ 140737488355328) (hbase : base ≤ w.heap.size)
    (h : ∀ g cap w', w'.ownsRow base e 2 (.slice (some ⟨g, 0, none⟩) (n + 1) cap) (n + 1) (xs ++ [u1, u2]) → Below base w w' → K (a.put o.dst (.slice (some ⟨g, 0, none⟩) (n + 1) cap)) w') :
    if Region.wanted o (yielded ops a.tmps) = true then Oper.wp P o a w K Q else E := by
  refine step_append_lies w hgd s x t ho base e i z 2 bytes ht hi hz hsize hby hzs (by decide) v n xs hs hown ⟨g, 0, none⟩ 1 1 [u1, u2] hx rfl ?_ ?_ (by decide) ?_ hbytes.1 hbase _ rfl ?_
  · intro j y hj
    match j, hj with
    | 0, hj => simp at hj; subst hj; simpa [Addr.add] using hc1
    | 1, hj => simp at hj; subst hj; simpa [Addr.add] using hc2
  · intro y hy; simp at hy; rcases hy with rfl | rfl <;> assumption
  · unfold maxLen; omega
  · intro g cap w' r1 r2 _ _
    exact h g cap w' r1 ((Below.refl base w).grown r2 hbase (ownBlock_ge hown))

theorem shL_take (b : Int) (l : List Rg) (k : Nat) (h : k < l.length) : shL b (l.take (k + 1)) = shL b (l.take k) ++ [(l[k].1 + b, l[k].2 + b)] := by
  unfold shL; rw [List.take_succ_eq_append_getElem h, List.map_append]; rfl
theorem scL_take (b : Int) (l : List Rg) (k : Nat) (h : k < l.length) : scL b (l.take (k + 1)) = scL b (l.take k) ++ [(min (l[k].1 * b) (l[k].2 * b), max (l[k].1 * b) (l[k].2 * b))] := by
  unfold scL; rw [List.take_succ_eq_append_getElem h, List.map_append]; rfl
theorem shL_length (b : Int) (l : List Rg) : (shL b l).length = l.length := by simp [shL]
theorem scL_length (b : Int) (l : List Rg) : (scL b l).length = l.length := by simp [scL]

end Go.Proofs.Ytajooiainglpmaa
namespace Go.Proofs.Ytajooiainglpmaa
open Go.RowKit

theorem mul_small (x c : Int) (hx : -200 ≤ x ∧ x ≤ 200) (hc : -10000 ≤ c ∧ c ≤ 10000) : -2000000 ≤ x * c ∧ x * c ≤ 2000000 := by
  have h1 : (x * c).natAbs ≤ 200 * 10000 := by
    rw [Int.natAbs_mul]; exact Nat.mul_le_mul (by omega) (by omega)
  omega
theorem quiet_here {P : Program} {f : FuncId} {args : Array Value} {w : World} {n : Nat} {v : Value} (h : Calls P f args (w.drewN n) fun e w' => e = .returned v ∧ w.drewN n = w') :
    Calls P f args (w.drewN n) fun e w'' => e = .returned v ∧ ∃ m, w'' = w.drewN m := h.mono fun _ _ ⟨he, hw⟩ => ⟨he, n, hw.symm⟩

end Go.Proofs.Ytajooiainglpmaa
namespace Go.Proofs.Ytajooiainglpmaa
open Go.RowKit Go.ChangeShapes Go.WideShapes Go.ChangeAt

theorem cellsRg : Try.prog.cellsOf 28 = 2 := by kernel_rfl
theorem cellsInt : Try.prog.cellsOf 3 = 1 := by kernel_rfl
theorem pair_cut {xs : List Value} {n i : Nat} (hl : xs.length = n * 2) (hi : i < n) : ∃ x0 x1, xs[i * 2]? = some x0 ∧ xs[i * 2 + 1]? = some x1 ∧ (xs.drop (i * 2)).take 2 = [x0, x1] := by
  have h0 : i * 2 < xs.length := by omega
  have h1 : i * 2 + 1 < xs.length := by omega
  refine ⟨xs[i * 2], xs[i * 2 + 1], List.getElem?_eq_getElem h0, List.getElem?_eq_getElem h1, ?_⟩
  rw [List.drop_eq_getElem_cons h0, List.drop_eq_getElem_cons h1]
  rfl
set_option maxRecDepth 100000 in
theorem open_rgs {H : Type} {enc : TypeId × Value → H} {w : World} {sp : Nat → Bool} {held : Bool} {base : Nat} {v : Value} {d : DataW H} {ps : List MemPlace}
    (hval : Value.okWide Try.prog w .any base 25 v) (h0 : DataW.Trod enc Try.prog w 0 sp held 25 v d ps) : ∃ rs : List Rg, RgAt w v rs := by
  obtain ⟨a0, l0, c0, rfl⟩ := okWide_slice Try.underlying25 hval
  obtain ⟨fuel, h⟩ := Joins.field_of_Trod h0 rfl
  obtain ⟨n, xs, hS, hE⟩ := open_sl (k := 2) Try.underlying25 cellsRg h
  have hl := hS.len
  have hx : ∀ i, i < n → ∃ r : Rg, xs[i * 2]? = some (.int .i64 r.1) ∧ xs[i * 2 + 1]? = some (.int .i64 r.2) := fun i hi => by
    obtain ⟨m, y, hy⟩ := hE i hi
    obtain ⟨x0, x1, e0, e1, e2⟩ := pair_cut hl hi
    rw [e2] at hy
    obtain ⟨y0, y1, q, _, _, t0, t1⟩ := trod_struct2 Try.underlying28 hy
    obtain ⟨z0, hz0, _, _⟩ := DataW.trod_int Try.underlying3 t0
    obtain ⟨z1, hz1, _, _⟩ := DataW.trod_int Try.underlying3 t1
    refine ⟨(z0, z1), ?_, ?_⟩
    · rw [e0]; simp [cellsInt] at hz0; rw [hz0]
    · rw [e1]; simp [cellsInt] at hz1; rw [hz1]
  obtain ⟨f, hf⟩ := Deep.choose_lt hx
  refine ⟨(List.range n).map f, ?_⟩
  have e : xs = cellsR ((List.range n).map f) := by
    apply List.ext_getElem?
    intro t
    by_cases ht : t < n * 2
    · have hd : t / 2 < ((List.range n).map f).length := by simp; omega
      obtain ⟨a, b⟩ := cellsR_at ((List.range n).map f) (t / 2) hd
      obtain ⟨f0, f1⟩ := hf (t / 2) (by omega)
      have e3 : ((List.range n).map f)[t / 2] = f (t / 2) := by simp
      rw [e3] at a b
      rcases (show t % 2 = 0 ∨ t % 2 = 1 by omega) with h | h
      · rw [show xs[t]? = xs[t / 2 * 2]? by congr 1; omega, f0, show (cellsR ((List.range n).map f))[t]? = (cellsR ((List.range n).map f))[t / 2 * 2]? by congr 1; omega, a]
      · rw [show xs[t]? = xs[t / 2 * 2 + 1]? by congr 1; omega, f1, show (cellsR ((List.range n).map f))[t]? = (cellsR ((List.range n).map f))[t / 2 * 2 + 1]? by congr 1; omega, b]
    · rw [List.getElem?_eq_none (by omega), List.getElem?_eq_none (by rw [cellsR_length]; simp; omega)]
  unfold RgAt
  rw [← e]
  simpa using hS
end Go.Proofs.Ytajooiainglpmaa
namespace Go.Proofs.Ytajooiainglpmaa
open Go.RowKit Go.ChangeShapes Go.WideShapes Go.ChangeAt

set_option maxRecDepth 100000 in
theorem cellsI16 : Try.prog.cellsOf 48 = 1 := by kernel_rfl
set_option maxRecDepth 100000 in
theorem open_i16s {H : Type} {enc : TypeId × Value → H} {w : World} {sp : Nat → Bool} {held : Bool} {base : Nat} {v : Value} {d : DataW H} {ps : List MemPlace}
    (hval : Value.okWide Try.prog w .any base 47 v) (h0 : DataW.Trod enc Try.prog w 0 sp held 47 v d ps) : ∃ zs : List Int, SlAt w 1 v zs.length (zs.map (Value.int .i16)) ∧ ∀ z ∈ zs, -32768 ≤ z ∧ z ≤ 32767 := by
  obtain ⟨a0, l0, c0, rfl⟩ := okWide_slice Try.underlying47 hval
  obtain ⟨fuel, h⟩ := Joins.field_of_Trod h0 rfl
  obtain ⟨n, xs, hS, hE⟩ := open_sl (k := 1) Try.underlying47 cellsI16 h
  have hx : ∀ i, i < n → ∃ z : Int, xs[i]? = some (.int .i16 z) ∧ (Lit.int .i16 z).wf = true := fun i hi => by
    obtain ⟨m, y, hy⟩ := hE i hi
    obtain ⟨z, hz, _, hwf⟩ := DataW.trod_int Try.underlying48 hy
    refine ⟨z, ?_, hwf⟩
    have := congrArg (·[0]?) hz
    simpa [List.getElem?_take, List.getElem?_drop] using this
  obtain ⟨f, hf⟩ := Deep.choose_lt hx
  have hl := hS.len
  have e : xs = ((List.range n).map f).map (Value.int .i16) := by
    apply List.ext_getElem?
    intro i
    by_cases hi : i < n
    · rw [(hf i hi).1]; simp [hi]
    · rw [List.getElem?_eq_none (by omega), List.getElem?_eq_none (by simp; omega)]
  refine ⟨(List.range n).map f, ?_, fun z hz => ?_⟩
  · rw [← e]
    simpa using hS
  · obtain ⟨i, hi, rfl⟩ := List.mem_map.1 hz
    have := (hf i (by simpa using hi)).2
    simpa [Lit.wf, IntKind.min, IntKind.max, IntKind.bits, IntKind.signed] using this
end Go.Proofs.Ytajooiainglpmaa
