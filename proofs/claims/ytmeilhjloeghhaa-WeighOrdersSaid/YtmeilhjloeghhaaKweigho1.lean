/-
  The law WeighOrders, walked.
  A slice of floats, of bools, that comes in.
-/
import Derived.Test.YtmeilhjloeghhaaKweigh6
import Derived.Test.YtmeilhjloeghhaaKweigh3
import Derived.Test.YtmeilhjloeghhaaKweigh1
import Derived.Test.YtmeilhjloeghhaaKlib1
import Derived.Lib.SmallJoins
import Derived.ChangeArms
namespace Go.Proofs.Ytmeilhjloeghhaa
open Go.RowKit

set_option maxRecDepth 100000 in
set_option maxHeartbeats 3200000 in
theorem weighOrders_any (v vs : Value) (bs : List Nat) (sk : List Bool) (w : World) (h : FlAt w v bs) (hs : BoAt w vs sk) :
    Calls Try.prog 9 #[v, vs] w fun e w' => e = .returned (.bool true) ∧ Below w.heap.size w w' := by
  obtain ⟨i0, hi, hz0, hz1, hz2⟩ := info_parts Try.infoFloat
  obtain ⟨ao, cap, rfl, _⟩ := h.1.shape
  obtain ⟨so, sc, rfl, _⟩ := hs.shape
  by_cases hl : 256 < bs.length
  · have hli : (bs.length : Int) > 256 := by omega
    clear h hs
    go_enter Try.func9, Try.ntmps9
    go_wp2
    go_ret
    exact ⟨rfl, Below.refl _ _⟩
  by_cases hl2 : 1024 < sk.length
  · have hli : ¬ ((bs.length : Int) > 256) := by omega
    have hli2 : (sk.length : Int) > 1024 := by omega
    clear h hs
    go_enter Try.func9, Try.ntmps9
    go_wp2
    go_ret
    exact ⟨rfl, Below.refl _ _⟩
  have H := Lib.hid h
  have HSK := Lib.hid hs
  have hli : ¬ ((bs.length : Int) > 256) := by omega
  have hli2 : ¬ ((sk.length : Int) > 1024) := by omega
  have hl4 : bs.length ≤ 4096 := by omega
  have hs4 : sk.length ≤ 4096 := by omega
  obtain ⟨L, hL⟩ : ∃ L, L = orderO (keyAt bs) bs.length := ⟨_, rfl⟩
  obtain ⟨B, hB⟩ : ∃ B, B = toI (bestI (keyAt bs) (skipAt sk) bs.length) := ⟨_, rfl⟩
  have HOL : Hid (L.length = bs.length) := by rw [hL]; exact orderO_length _ _
  have CO : Hid (∀ v W, FlAt W v bs → Calls Try.prog 16 #[v] W fun e w' => ∃ blk, e = .returned (.slice (some ⟨blk, 0, none⟩) bs.length bs.length) ∧ SlAt w' 1 (.slice (some ⟨blk, 0, none⟩) bs.length bs.length) bs.length (natI L) ∧ W.heap.size ≤ blk ∧ Below W.heap.size W w') := fun v W hW => by rw [hL]; exact order_c v bs W hW hl4
  have CR : Hid (∀ W, Below w.heap.size w W → Calls Try.prog 17 #[.slice ao bs.length cap] W fun e w' => ∃ v', e = .returned v' ∧ SlAt w' 1 v' bs.length (natI L) ∧ Below W.heap.size W w') := fun W hW => by rw [hL]; exact refOrder_any _ bs W (H.out.below hW) hl4
  have CSM : Hid (∀ va vb W, SlAt W 1 va bs.length (natI L) → SlAt W 1 vb bs.length (natI L) → Calls Try.prog 18 #[va, vb] W fun e w' => e = .returned (.bool true) ∧ Below W.heap.size W w') := fun va vb W h1 h2 => sameNat_c va vb L bs.length HOL.out hl4 W h1 h2
  have CB : Hid (∀ v W, FlAt W v bs → Below w.heap.size w W → Calls Try.prog 12 #[v, .slice so sk.length sc] W fun e w' => e = .returned (.int .i64 B) ∧ Below W.heap.size W w') := fun v W h1 h2 => by rw [hB]; exact best_any v _ bs sk W h1 (HSK.out.below h2) hl4 hs4
  have RB : Hid (∀ W, Below w.heap.size w W → Calls Try.prog 13 #[.slice ao bs.length cap, .slice so sk.length sc] W fun e w' => e = .returned (.int .i64 B) ∧ Below W.heap.size W w') := fun W h2 => by
    have h := refBest_any _ _ bs sk W (H.out.below h2) (HSK.out.below h2) hl4 hs4
    rw [best_plain, ← hB] at h
    exact h
  clear h hs hL hB HOL
  go_enter Try.func9, Try.ntmps9
  go_upto_region 5 with (at_builtin; refine wpList_append_sl rfl (.tmp 18) (.tmp 19) 25 rfl w.heap.size 22 i0 (.float .f64 0) 1 8 Try.underlying25 hi hz0 hz1 hz2 rfl (by decide) _ 0 [] rfl (World.ownsRow_made w #[] 0 (Nat.le_refl _) (by decide) rfl) _ _ _ rfl (H.out.1.alloc _) (fl_one _) (by omega) (by simp) ?_; intro v1 w1 o1 b1 g1; clear g1; simp only [Nat.zero_add, List.nil_append] at o1; have bw1 := Lib.hid (((Below.refl w.heap.size w).alloc (Nat.le_refl _) _).trans b1); have O1 := Lib.hid o1; clear o1 b1)
  have HV : Hid (FlAt w1 v1 bs) := ⟨SlAt.of_own O1.out, H.out.2⟩
  obtain ⟨vo, vc, rfl, _⟩ := HV.out.1.shape
  clear O1
  go_upto_region 9 with (first
    | (go_at_call 16; (with_reducible refine (CO.out _ _ HV.out).mono ?_); rintro e W1 ⟨blk, rfl, sl, hb0, bb⟩; have S1 := Lib.hid sl; have V1 := Lib.hid (HV.out.below bb); have B1 := Lib.hid (bw1.out.trans (bb.mono bw1.out.size)); clear sl bb hb0)
    | (go_at_call 17; (with_reducible refine (CR.out _ B1.out).mono ?_); rintro e W2 ⟨v2, rfl, sl, bb⟩; obtain ⟨ra, rc, rfl, _⟩ := sl.shape; have S2 := Lib.hid sl; have S12 := Lib.hid (S1.out.below bb); have V2 := Lib.hid (V1.out.below bb); have B2 := Lib.hid (B1.out.trans (bb.mono B1.out.size)); clear sl bb)
    | (go_at_call 18; (with_reducible refine (CSM.out _ _ _ S12.out S2.out).mono ?_); rintro e W3 ⟨rfl, bb⟩; have V3 := Lib.hid (V2.out.below bb); have B3 := Lib.hid (B2.out.trans (bb.mono B2.out.size)); clear bb)
    | (go_at_call 12; (with_reducible refine (CB.out _ _ V3.out B3.out).mono ?_); rintro e W4 ⟨rfl, bb⟩; have V4 := Lib.hid (V3.out.below bb); have B4 := Lib.hid (B3.out.trans (bb.mono B3.out.size)); clear bb)
    | (go_at_call 13; (with_reducible refine (RB.out _ B4.out).mono ?_); rintro e W5 ⟨rfl, bb⟩; have V5 := Lib.hid (V4.out.below bb); have B5 := Lib.hid (B4.out.trans (bb.mono B4.out.size)); clear bb))
  go_upto_region 10 with fail
  go_loopg [8] bs.length (fun f s wr => ∃ i q : Nat, s = .int .i64 i ∧ i ≤ bs.length ∧ Hid (f = bs.length - i) ∧ Hid (wr = W5.drewN q))
  case atStart => exact ⟨0, 0, rfl, by omega, rfl, rfl⟩
  case round =>
    obtain ⟨i, q, rfl, hi', HN, HW⟩ := hrel
    have BW : Hid (Below W5.heap.size W5 wr) := by show Below _ _ _; rw [HW.out]; exact below_drewN (Below.refl _ _) q
    by_cases hlt : i < bs.length
    · have hki : (i : Int) < bs.length := by omega
      obtain ⟨b, off, cap', he, hcap, hbs, hc⟩ := FlAt.at (H.out.below (B5.out.trans (BW.out.mono B5.out.size))) (by omega)
      simp only [Value.slice.injEq, true_and] at he
      obtain ⟨rfl, rfl⟩ := he
      obtain ⟨b', off', cap2, he, hcap2, hbs2, hc2⟩ := FlAt.at (V5.out.below BW.out) (by omega)
      simp only [Value.slice.injEq, true_and] at he
      obtain ⟨rfl, rfl⟩ := he
      have d1 := hc i hlt
      have d2 := hc2 i hlt
      have hx := H.out.2 _ (List.getElem_mem hlt)
      generalize bs[i] = x at *
      have CT : Hid (∀ w, Calls Try.prog 14 #[.float .f64 x, .float .f64 x] w fun e w' => e = .returned (.bool true) ∧ w = w') := fun w => twin_self x hx w
      clear hc hc2 hx
      go_upto_region 12 with fail
      go_quiet ((go_at_call 14; with_reducible exact q_same CT.out))
      go_wp2
      go_roundg (bs.length - (i + 1))
      case measure => have := HN.out; omega
      case rel => exact ⟨i + 1, _, by go_num, by omega, rfl, Lib.hid (by rw [HW.out, World.drewN_drewN])⟩
    · have hki : ¬ ((i : Int) < bs.length) := by omega
      go_wp2
      go_ret
      exact ⟨rfl, B5.out.trans (BW.out.mono B5.out.size)⟩
end Go.Proofs.Ytmeilhjloeghhaa
namespace Go.Proofs.Ytmeilhjloeghhaa
open Go.RowKit Go.ChangeShapes Go.WideShapes Go.ChangeAt

theorem cellsF : Try.prog.cellsOf 22 = 1 := by kernel_rfl
theorem Try.trod_float {H : Type} {enc : TypeId × Value → H} {P : Program} {w : World} {base : Nat} {sp : Nat → Bool} {held : Bool} {fuel : Nat} {t : TypeId} {k : FloatKind} {cs : List Value} {x : DataW H × List MemPlace} (ht : P.underlying t = some (.float k)) (h : DataW.trod enc P w base sp held fuel t cs = some x) :
    ∃ n, cs = [.float k n] ∧ x = (.lit (.float k n), []) ∧ (Lit.float k n).wf = true := by
  cases fuel with
  | zero => simp [DataW.trod] at h
  | succ n =>
    unfold DataW.trod at h
    rw [ht] at h
    split at h <;> simp_all
/-- a slice of floats that comes in -/
theorem open_fs {H : Type} {enc : TypeId × Value → H} {w : World} {sp : Nat → Bool} {held : Bool} {base : Nat} {v : Value} {d : DataW H} {ps : List MemPlace}
    (hval : Value.okWide Try.prog w .any base 25 v) (h0 : DataW.Trod enc Try.prog w 0 sp held 25 v d ps) : ∃ zs : List Nat, FlAt w v zs := by
  obtain ⟨a0, l0, c0, rfl⟩ := okWide_slice Try.underlying25 hval
  obtain ⟨fuel, h⟩ := Joins.field_of_Trod h0 rfl
  obtain ⟨n, xs, hS, hE⟩ := open_sl (k := 1) Try.underlying25 cellsF h
  have hx : ∀ i, i < n → ∃ z : Nat, xs[i]? = some (.float .f64 z) ∧ (Lit.float .f64 z).wf = true := fun i hi => by
    obtain ⟨m, y, hy⟩ := hE i hi
    obtain ⟨z, hz, _, hwf⟩ := Try.trod_float Try.underlying22 hy
    refine ⟨z, ?_, hwf⟩
    have := congrArg (·[0]?) hz
    simpa [List.getElem?_take, List.getElem?_drop] using this
  obtain ⟨f, hf⟩ := Deep.choose_lt hx
  have hl := hS.len
  have e : xs = ((List.range n).map f).map (Value.float .f64) := by
    apply List.ext_getElem?
    intro i
    by_cases hi : i < n
    · rw [(hf i hi).1]; simp [hi]
    · rw [List.getElem?_eq_none (by omega), List.getElem?_eq_none (by simp; omega)]
  refine ⟨(List.range n).map f, ?_, fun z hz => ?_⟩
  · rw [← e]
    simpa using hS
  · obtain ⟨i, hi, rfl⟩ := List.mem_map.1 hz
    simpa [Lit.wf] using (hf i (by simpa using hi)).2
theorem cellsB : Try.prog.cellsOf 4 = 1 := by kernel_rfl
theorem open_bools {H : Type} {enc : TypeId × Value → H} {w : World} {sp : Nat → Bool} {held : Bool} {base : Nat} {v : Value} {d : DataW H} {ps : List MemPlace}
    (hval : Value.okWide Try.prog w .any base 36 v) (h0 : DataW.Trod enc Try.prog w 0 sp held 36 v d ps) : ∃ zs : List Bool, BoAt w v zs := by
  obtain ⟨a0, l0, c0, rfl⟩ := okWide_slice Try.underlying36 hval
  obtain ⟨fuel, h⟩ := Joins.field_of_Trod h0 rfl
  obtain ⟨n, xs, hS, hE⟩ := open_sl (k := 1) Try.underlying36 cellsB h
  have hx : ∀ i, i < n → ∃ z : Bool, xs[i]? = some (.bool z) := fun i hi => by
    obtain ⟨m, y, hy⟩ := hE i hi
    obtain ⟨z, hz, _⟩ := DataW.trod_bool Try.underlying4 hy
    refine ⟨z, ?_⟩
    have := congrArg (·[0]?) hz
    simpa [List.getElem?_take, List.getElem?_drop] using this
  obtain ⟨f, hf⟩ := Deep.choose_lt hx
  have hl := hS.len
  have e : xs = ((List.range n).map f).map Value.bool := by
    apply List.ext_getElem?
    intro i
    by_cases hi : i < n
    · rw [hf i hi]; simp [hi]
    · rw [List.getElem?_eq_none (by omega), List.getElem?_eq_none (by simp; omega)]
  refine ⟨(List.range n).map f, ?_⟩
  unfold BoAt
  rw [← e]
  simpa using hS
end Go.Proofs.Ytmeilhjloeghhaa
