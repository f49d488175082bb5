/-
  The law WeighRises, walked.
  A slice of floats, of bools, that comes in.
-/
import Derived.Test.YtmeilhjloeghhaaKweigh6
import Derived.IntWalk
import Derived.Test.YtmeilhjloeghhaaKweigh1
import Derived.Test.YtmeilhjloeghhaaKlib1
import Derived.Lib.SmallJoins
import Derived.ChangeArms
namespace Go.Proofs.Ytmeilhjloeghhaa
open Go.RowKit

theorem cell_drewN (w : World) (q : Nat) (a : Addr) : (w.drewN q).cell? a = w.cell? a := World.cell?_of_block (by
  have : (w.drewN q).heap = w.heap := by
    induction q with
    | zero => rfl
    | succ q ih => exact ih
  rw [this])
set_option maxRecDepth 100000 in
set_option maxHeartbeats 12800000 in
theorem weighRises_any (v : Value) (bs : List Nat) (w : World) (h : FlAt w v bs) :
    Calls Try.prog 7 #[v] w fun e w' => e = .returned (.bool true) ∧ Below w.heap.size w w' := by
  obtain ⟨ao, cap, rfl, _⟩ := h.1.shape
  by_cases hl : 256 < bs.length
  · have hli : (bs.length : Int) > 256 := by omega
    clear h
    go_enter Try.func7, Try.ntmps7
    go_wp2
    go_ret
    exact ⟨rfl, Below.refl _ _⟩
  have H := Lib.hid h
  have hli : ¬ ((bs.length : Int) > 256) := by omega
  have hl4 : bs.length ≤ 4096 := by omega
  obtain ⟨L, hL⟩ : ∃ L, L = orderO (keyAt bs) bs.length := ⟨_, rfl⟩
  have CO : Hid (∀ W, Below w.heap.size w W → Calls Try.prog 16 #[.slice ao bs.length cap] W fun e w' => ∃ blk, e = .returned (.slice (some ⟨blk, 0, none⟩) bs.length bs.length) ∧ SlAt w' 1 (.slice (some ⟨blk, 0, none⟩) bs.length bs.length) bs.length (natI (L)) ∧ W.heap.size ≤ blk ∧ Below W.heap.size W w') := fun W hW => by rw [hL]; exact order_c _ bs W (H.out.below hW) hl4
  have CR : Hid (∀ W, Below w.heap.size w W → Calls Try.prog 17 #[.slice ao bs.length cap] W fun e w' => ∃ v', e = .returned v' ∧ SlAt w' 1 v' bs.length (natI (L)) ∧ Below W.heap.size W w') := fun W hW => by rw [hL]; exact refOrder_any _ bs W (H.out.below hW) hl4
  have HOL : Hid (L.length = bs.length) := by rw [hL]; exact orderO_length _ _
  have HLT : Hid (∀ x ∈ L, x < bs.length) := fun x hx => by rw [hL] at hx; exact orderO_lt _ _ x hx
  have HST : Hid (∀ i (h1 : i + 1 < L.length), ahead (keyAt bs) L[i] L[i + 1]) := by rw [hL]; exact fun i h1 => order_step _ _ i h1
  have HKY : Hid (∀ x (hx : x < bs.length), keyAt bs x = wk bs[x]) := fun x hx => by unfold keyAt; rw [List.getD_eq_getElem?_getD, List.getElem?_eq_getElem hx]; rfl
  have CSM : Hid (∀ va vb W, SlAt W 1 va bs.length (natI L) → SlAt W 1 vb bs.length (natI L) → Calls Try.prog 18 #[va, vb] W fun e w' => e = .returned (.bool true) ∧ Below W.heap.size W w') := fun va vb W h1 h2 => sameNat_c va vb L bs.length HOL.out hl4 W h1 h2
  clear h hL
  go_enter Try.func7, Try.ntmps7
  go_upto_region 7 with (first
    | (go_at_call 16; (with_reducible refine (CO.out _ (Below.refl _ _)).mono ?_); rintro e W1 ⟨blk, rfl, sl, hb0, bb⟩; have S1 := Lib.hid sl; have B1 := Lib.hid bb; clear sl bb hb0)
    | (go_at_call 17; (with_reducible refine (CR.out _ B1.out).mono ?_); rintro e W2 ⟨v2, rfl, sl, bb⟩; obtain ⟨ra, rc, rfl, _⟩ := sl.shape; have S2 := Lib.hid sl; have S12 := Lib.hid (S1.out.below bb); have B2 := Lib.hid (B1.out.trans (bb.mono B1.out.size)); clear sl bb)
    | (go_at_call 18; (with_reducible refine (CSM.out _ _ _ S12.out S2.out).mono ?_); rintro e W3 ⟨rfl, bb⟩; have S3 := Lib.hid (S12.out.below bb); have B3 := Lib.hid (B2.out.trans (bb.mono B2.out.size)); clear bb))
  go_upto_region 8 with fail
  go_loopg [5] (bs.length + 1 - 1) (fun f s wr => ∃ j q : Nat, s = .int .i64 j ∧ 1 ≤ j ∧ Hid (f = bs.length + 1 - j) ∧ Hid (wr = W3.drewN q))
  case atStart => exact ⟨1, 0, by rfl, by omega, rfl, rfl⟩
  case round =>
    obtain ⟨j, q, rfl, hj, HN, HW⟩ := hrel
    obtain ⟨i, hji⟩ : ∃ i, j = i + 1 := ⟨j - 1, by omega⟩
    have BW : Hid (Below W3.heap.size W3 wr) := by show Below _ _ _; rw [HW.out]; exact below_drewN (Below.refl _ _) q
    by_cases hlt : j < bs.length
    · have hki : (j : Int) < bs.length := by omega
      have hk0 : (i : Int) < bs.length := by omega
      have h1 : i < L.length := by rw [HOL.out]; omega
      have h2 : i + 1 < L.length := by rw [HOL.out]; omega
      have e1 : (j : Int) - 1 = (i : Int) := by omega
      obtain ⟨b1, o1, hbe, q1, c1⟩ := slAt_nat (S3.out.below BW.out) i h1
      obtain ⟨b1', o1', hbe', q1', c2⟩ := slAt_nat (S3.out.below BW.out) (i + 1) h2
      simp only [Option.some.injEq, Addr.mk.injEq, and_true] at hbe hbe'
      obtain ⟨rfl, rfl⟩ := hbe
      obtain ⟨rfl, rfl⟩ := hbe'
      rw [Nat.zero_add] at c1 c2
      obtain ⟨hf1, hf2, hf3⟩ := ahead_facts (HST.out i h2)
      have hyn := HLT.out _ (List.getElem_mem h1)
      have hxn := HLT.out _ (List.getElem_mem h2)
      generalize L[i] = y at *
      generalize L[i + 1] = x at *
      rw [← hji] at c2
      obtain ⟨b, off, cap', he, hcap, hbs, hc⟩ := FlAt.at (H.out.below (B3.out.trans (BW.out.mono B3.out.size))) (by omega)
      simp only [Value.slice.injEq, true_and] at he
      obtain ⟨rfl, rfl⟩ := he
      have d1 := hc y hyn
      have d2 := hc x hxn
      rw [HKY.out y hyn, HKY.out x hxn] at hf1 hf2 hf3
      have hw1 := H.out.2 _ (List.getElem_mem hyn)
      have hw2 := H.out.2 _ (List.getElem_mem hxn)
      generalize bs[y] = fy at *
      generalize bs[x] = fx at *
      have CL1 : Hid (∀ w, Calls Try.prog 10 #[.float .f64 fx, .float .f64 fy] w fun e w' => e = .returned (.bool false) ∧ w = w') := fun w => by rw [← hf1]; exact less_any fx fy w hw2 hw1
      have CL2 : Hid (∀ w, Calls Try.prog 10 #[.float .f64 fy, .float .f64 fx] w fun e w' => e = .returned (.bool (lessK (wk fy) (wk fx))) ∧ w = w') := fun w => less_any fy fx w hw1 hw2
      have CN1 : Hid (∀ w, Calls Try.prog 19 #[.float .f64 fy] w fun e w' => e = .returned (.bool (wk fy).isNone) ∧ w = w') := fun w => refNan_any fy w
      have CN2 : Hid (∀ w, Calls Try.prog 19 #[.float .f64 fx] w fun e w' => e = .returned (.bool (wk fx).isNone) ∧ w = w') := fun w => refNan_any fx w
      have HF2 := Lib.hid hf2
      have HF3 := Lib.hid hf3
      generalize (wk fy).isNone = ny at *
      generalize (wk fx).isNone = nx at *
      generalize lessK (wk fy) (wk fx) = lyx at *
      have jx : (x : Int) < bs.length := by omega
      have jy : (y : Int) < bs.length := by omega
      have jx2 : ¬ ((x : Int) < 0) := by omega
      have jy2 : ¬ ((y : Int) < 0) := by omega
      have jxn : decide (bs.length ≤ x) = false := by simp; omega
      have jyn : decide (bs.length ≤ y) = false := by simp; omega
      have hwi : IntKind.i64.wrap (i : Int) = (i : Int) := IntWalk.i64_in _ (by omega)
      have HJI := Lib.hid hji
      clear hf1 hf2 hf3 hc hw1 hw2 hxn hyn h1 h2 hji
      clear CO CR CSM HLT HST HKY S1 S2 S12 B1 B2 hbs hcap
      go_upto_region 10 with fail
      go_cut [101] from 24 to 130 (fun cv wx => cv = .bool false ∧ Hid (∃ q', wx = wr.drewN q'))
      case first =>
        clear HN HW H HOL HF3 CL2 B3 BW HJI S3
        cases ny with
        | true =>
          obtain rfl : nx = true := HF2.out (by first | rfl | trivial)
          clear HF2
          refine wp_region_quiet_lit (by kernel_rfl) (by kernel_rfl) ?_
          simp only [List.append_eq, List.cons_append, List.nil_append]
          repeat (go_big_quiet_step ((first | (go_at_call 10; with_reducible exact q_same CL1.out) | (go_at_call 19; first | (with_reducible exact q_same CN1.out) | (with_reducible exact q_same CN2.out)))))
          refine wpQuiet_nil ?_
          intro _ hw'
          obtain ⟨nq, hw''⟩ := hw'
          subst hw''
          go_wp2
          go_meet
          exact ⟨rfl, _, rfl⟩
        | false =>
          clear HF2
          refine wp_region_quiet_lit (by kernel_rfl) (by kernel_rfl) ?_
          simp only [List.append_eq, List.cons_append, List.nil_append]
          repeat (go_big_quiet_step ((first | (go_at_call 10; with_reducible exact q_same CL1.out) | (go_at_call 19; first | (with_reducible exact q_same CN1.out) | (with_reducible exact q_same CN2.out)))))
          refine wpQuiet_nil ?_
          intro _ hw'
          obtain ⟨nq, hw''⟩ := hw'
          subst hw''
          go_wp2
          go_meet
          exact ⟨rfl, _, rfl⟩
      case rest =>
        obtain ⟨rfl, HQ⟩ := hcut
        obtain ⟨q', hq'⟩ := HQ.out
        obtain ⟨w2, hw2⟩ : ∃ w2, w2 = wr.drewN q' := ⟨_, rfl⟩
        rw [← cell_drewN wr q', ← hw2] at c1 c2 d1 d2
        rw [← hw2] at hq'
        subst hq'
        have HW2 := Lib.hid hw2
        clear HQ CL1 CN1 CN2 hw2
        go_upto_region 12 with fail
        cases lyx with
        | true =>
          go_quiet ((go_at_call 10; with_reducible exact q_same CL2.out))
          go_wp2
          go_roundg (bs.length + 1 - (j + 1))
          case measure => have := HN.out; omega
          case rel => exact ⟨j + 1, _, by first | rfl | go_num, by omega, rfl, Lib.hid (by rw [HW2.out, HW.out, World.drewN_drewN, World.drewN_drewN])⟩
        | false =>
          have hyx : decide (x < y) = false := by have := HF3.out (by first | rfl | trivial); simp; omega
          go_quiet ((go_at_call 10; with_reducible exact q_same CL2.out))
          go_wp2
          go_roundg (bs.length + 1 - (j + 1))
          case measure => have := HN.out; omega
          case rel => exact ⟨j + 1, _, by first | rfl | go_num, by omega, rfl, Lib.hid (by rw [HW2.out, HW.out, World.drewN_drewN, World.drewN_drewN])⟩
    · have hki : ¬ ((j : Int) < bs.length) := by omega
      go_wp2
      go_ret
      exact ⟨rfl, B3.out.trans (BW.out.mono B3.out.size)⟩
end Go.Proofs.Ytmeilhjloeghhaa
namespace Go.Proofs.Ytmeilhjloeghhaa
open Go.RowKit Go.ChangeShapes Go.WideShapes Go.ChangeAt

theorem cellsF : Try.prog.cellsOf 22 = 1 := by kernel_rfl
theorem Try.trod_float {H : Type} {enc : TypeId × Value → H} {P : Program} {w : World} {base : Nat} {sp : Nat → Bool} {held : Bool} {fuel : Nat} {t : TypeId} {k : FloatKind} {cs : List Value} {x : DataW H × List MemPlace} (ht : P.underlying t = some (.float k)) (h : DataW.trod enc P w base sp held fuel t cs = some x) :
    ∃ n, cs = [.float k n] ∧ x = (.lit (.float k n), []) ∧ (Lit.float k n).wf = true := by
  cases fuel with
  | zero => simp [DataW.trod] at h
  | succ n =>
    unfold DataW.trod at h
    rw [ht] at h
    split at h <;> simp_all
/-- a slice of floats that comes in -/
theorem open_fs {H : Type} {enc : TypeId × Value → H} {w : World} {sp : Nat → Bool} {held : Bool} {base : Nat} {v : Value} {d : DataW H} {ps : List MemPlace}
    (hval : Value.okWide Try.prog w .any base 25 v) (h0 : DataW.Trod enc Try.prog w 0 sp held 25 v d ps) : ∃ zs : List Nat, FlAt w v zs := by
  obtain ⟨a0, l0, c0, rfl⟩ := okWide_slice Try.underlying25 hval
  obtain ⟨fuel, h⟩ := Joins.field_of_Trod h0 rfl
  obtain ⟨n, xs, hS, hE⟩ := open_sl (k := 1) Try.underlying25 cellsF h
  have hx : ∀ i, i < n → ∃ z : Nat, xs[i]? = some (.float .f64 z) ∧ (Lit.float .f64 z).wf = true := fun i hi => by
    obtain ⟨m, y, hy⟩ := hE i hi
    obtain ⟨z, hz, _, hwf⟩ := Try.trod_float Try.underlying22 hy
    refine ⟨z, ?_, hwf⟩
    have := congrArg (·[0]?) hz
    simpa [List.getElem?_take, List.getElem?_drop] using this
  obtain ⟨f, hf⟩ := Deep.choose_lt hx
  have hl := hS.len
  have e : xs = ((List.range n).map f).map (Value.float .f64) := by
    apply List.ext_getElem?
    intro i
    by_cases hi : i < n
    · rw [(hf i hi).1]; simp [hi]
    · rw [List.getElem?_eq_none (by omega), List.getElem?_eq_none (by simp; omega)]
  refine ⟨(List.range n).map f, ?_, fun z hz => ?_⟩
  · rw [← e]
    simpa using hS
  · obtain ⟨i, hi, rfl⟩ := List.mem_map.1 hz
    simpa [Lit.wf] using (hf i (by simpa using hi)).2
theorem cellsB : Try.prog.cellsOf 4 = 1 := by kernel_rfl
theorem open_bools {H : Type} {enc : TypeId × Value → H} {w : World} {sp : Nat → Bool} {held : Bool} {base : Nat} {v : Value} {d : DataW H} {ps : List MemPlace}
    (hval : Value.okWide Try.prog w .any base 36 v) (h0 : DataW.Trod enc Try.prog w 0 sp held 36 v d ps) : ∃ zs : List Bool, BoAt w v zs := by
  obtain ⟨a0, l0, c0, rfl⟩ := okWide_slice Try.underlying36 hval
  obtain ⟨fuel, h⟩ := Joins.field_of_Trod h0 rfl
  obtain ⟨n, xs, hS, hE⟩ := open_sl (k := 1) Try.underlying36 cellsB h
  have hx : ∀ i, i < n → ∃ z : Bool, xs[i]? = some (.bool z) := fun i hi => by
    obtain ⟨m, y, hy⟩ := hE i hi
    obtain ⟨z, hz, _⟩ := DataW.trod_bool Try.underlying4 hy
    refine ⟨z, ?_⟩
    have := congrArg (·[0]?) hz
    simpa [List.getElem?_take, List.getElem?_drop] using this
  obtain ⟨f, hf⟩ := Deep.choose_lt hx
  have hl := hS.len
  have e : xs = ((List.range n).map f).map Value.bool := by
    apply List.ext_getElem?
    intro i
    by_cases hi : i < n
    · rw [hf i hi]; simp [hi]
    · rw [List.getElem?_eq_none (by omega), List.getElem?_eq_none (by simp; omega)]
  refine ⟨(List.range n).map f, ?_⟩
  unfold BoAt
  rw [← e]
  simpa using hS
end Go.Proofs.Ytmeilhjloeghhaa
