/-
  THE CARDS OF OpsTable, OpsSides, OpsKnown: each law answers true at every name, over the table as the program's text lays it.
-/
import Derived.Test.YthdjpealdpkggaaDoorLaws
import Derived.Test.YthdjpealdpkggaaDoorLaw
import Derived.Test.YthdjpealdpkggaaDoorCards
import Derived.Test.YthdjpealdpkggaaDoorTie
import Derived.ProofKit
import Derived.OpenShut
import Derived.Deep.DeepHandedRow
import Derived.Lib.LaidTab
import Derived.Deep.Strs
namespace Go.Proofs.YthdjpealdpkggaaDoor
open Go.RowKit Go.ChangeShapes Go.WideShapes Go.ChangeAt

theorem own : ownKnob Tryd.prog.godebug = none := by kernel_rfl
theorem gTab : Tryd.prog.globalNamed "coney/ops.table" = some 0 := by kernel_rfl
theorem gTabType : (Tryd.prog.globals[0]?).map (·.type) = some 30 := by kernel_rfl
theorem cellsT : Tryd.prog.cellsOf 30 = 126 := by kernel_rfl
theorem cellsR : Tryd.prog.cellsOf 29 = 3 := by kernel_rfl
theorem cellsS : Tryd.prog.cellsOf 9 = 1 := by kernel_rfl
theorem cellsI : Tryd.prog.cellsOf 3 = 1 := by kernel_rfl
theorem laid_is {H : Type} : (Rows.laid_coney_ops_table : DataW H) = .agg (tab.map fun r => .agg [.lit (.string r.1), .lit (.string r.2.1), .lit (.int .i64 r.2.2)]) := rfl

theorem agg_inj {H : Type} {a b : List (DataW H)} (h : (DataW.agg a : DataW H) = .agg b) : a = b := by injection h
theorem lit_inj {H : Type} {a b : Lit} (h : (DataW.lit a : DataW H) = .lit b) : a = b := by injection h

/-- one row of the table, read -/
theorem row_cells {H : Type} {enc : TypeId × Value → H} {w : World} {base : Nat} {sp : Nat → Bool} {held : Bool} {fuel : Nat} {cs : List Value} {r : List UInt8 × List UInt8 × Int} {b : DataW H × List MemPlace}
    (h : DataW.trod enc Tryd.prog w base sp held fuel 29 cs = some b) (hb : b.1 = .agg [.lit (.string r.1), .lit (.string r.2.1), .lit (.int .i64 r.2.2)]) :
    cs[0]? = some (.string ⟨r.1.toArray⟩) ∧ cs[1]? = some (.string ⟨r.2.1.toArray⟩) ∧ cs[2]? = some (.int .i64 r.2.2) := by
  obtain ⟨y0, y1, y2, n, rfl, hl, h0, h1, h2⟩ := Deep.trod_struct3 Tryd.underlying29 h
  have hb' := agg_inj hb
  simp only [List.cons.injEq, and_true] at hb'
  obtain ⟨b0, b1, b2⟩ := hb'
  rw [cellsR] at hl
  simp only [cellsS, cellsI] at h0 h1 h2
  obtain ⟨s0, e0, rfl, _⟩ := DataW.trod_string Tryd.underlying9 h0
  obtain ⟨s1, e1, rfl, _⟩ := DataW.trod_string Tryd.underlying9 h1
  obtain ⟨n2, e2, rfl, _⟩ := DataW.trod_int Tryd.underlying3 h2
  match cs, hl with
  | [c0, c1, c2], _ =>
    simp at e0 e1 e2
    subst e0 e1 e2
    have l0 := lit_inj b0
    have l1 := lit_inj b1
    have l2 := lit_inj b2
    injection l0 with l0
    injection l1 with l1
    injection l2 with _ l2
    rw [← l0, ← l1, ← l2]
    exact ⟨rfl, rfl, rfl⟩

theorem tab_cells {H : Type} {enc : TypeId × Value → H} {w : World} {base : Nat} {sp : Nat → Bool} {held : Bool} {fuel : Nat} {cs : List Value} {p : List MemPlace}
    (h : DataW.trod enc Tryd.prog w base sp held fuel 30 cs = some (Rows.laid_coney_ops_table, p)) (k : Nat) (r : List UInt8 × List UInt8 × Int) (hr : tab[k]? = some r) :
    cs[k * 3]? = some (.string ⟨r.1.toArray⟩) ∧ cs[k * 3 + 1]? = some (.string ⟨r.2.1.toArray⟩) ∧ cs[k * 3 + 2]? = some (.int .i64 r.2.2) := by
  rw [laid_is] at h
  cases fuel with
  | zero => simp [DataW.trod] at h
  | succ fuel =>
    simp only [DataW.trod, Tryd.underlying30, cellsR, cellsT] at h
    split at h
    · obtain ⟨xs, hm, hx⟩ := Option.map_eq_some_iff.1 h
      have hxs := agg_inj (congrArg Prod.fst hx)
      have hk : k < 42 := (List.getElem?_eq_some_iff.1 hr).1
      obtain ⟨b, hb, hf⟩ := Lib.mapM_at hm k k (by simp [hk])
      have hb1 : (xs.map (·.1))[k]? = some b.1 := by simp [hb]
      rw [hxs] at hb1
      simp only [List.getElem?_map, hr, Option.map_some, Option.some.injEq] at hb1
      have hc := row_cells hf hb1.symm
      simpa [List.getElem?_take, List.getElem?_drop] using hc
    · cases h

theorem tabW_of {W : World} (h : laidMet Tryd.prog [("coney/ops.table", Rows.laid_coney_ops_table)] W) : TabW W := by
  obtain ⟨ps, ⟨g', t', cs, fuel, p, q, hg', ht', hvar, hd, _, _⟩, _⟩ := h
  obtain rfl := Option.some.inj (gTab.symm.trans hg')
  obtain rfl := Option.some.inj (gTabType.symm.trans ht')
  intro k r hr
  obtain ⟨a, b, c⟩ := tab_cells hd k r hr
  have := World.var?_cell gTab hvar
  simp only [Array.getElem?_toList] at a b c
  exact ⟨(this _).trans a, (this _).trans b, (this _).trans c⟩
-- CARDS
theorem laidOut : laidOutB Tryd.prog = true := by kernel_rfl
/-- a world for the witness: the settled one, the table (block 0) holding what its initialiser lays -/
noncomputable def laidWorld (os : Os) : World :=
  { World.holding Tryd.prog os ⟨#[], #[], []⟩ with heap := (World.holding Tryd.prog os ⟨#[], #[], []⟩).heap.modify 0 fun
      | .cells _ t frozen => .cells (tab.flatMap fun r => [.string ⟨r.1.toArray⟩, .string ⟨r.2.1.toArray⟩, .int .i64 r.2.2]).toArray t frozen
      | o => o }

theorem opsTable_read4 : Tryd.f4.params.toList.all (fun t => Tryd.prog.readableRec t && decide (t < Tryd.prog.types.size)) = true := by kernel_rfl
theorem opsTable_contract (H : Type) (enc : TypeId × Value → H) (W : World) (base : Nat) (args : Array Value) (ds gs : List (DataW H)) (before : List MemPlace)
    (hval : ∀ (j : Nat) t v, Tryd.f4.params[j]? = some t → args[j]? = some v → Value.okWide Tryd.prog W .any base t v)
    (hW : DataW.Whole enc Tryd.prog Tryd.f4.params.toList Rows.opsTableSpec.vars false W args.toList ds gs before) (hL : laidMetH Tryd.prog Rows.opsTableRow.laid W) :
    Calls Tryd.prog 4 args W fun e W' => ∃ v, e = .returned v ∧ Rows.opsTableSpec.post enc Tryd.prog Tryd.f4 false true false false W args v W' := by
  have hW' := hW
  obtain ⟨p, q, hA0, hV, rfl, hfz, hnd⟩ := hW
  have hA : DataW.TrodAll enc Tryd.prog W 0 (fun _ => true) true Tryd.f4.params.toList args.toList ds p := hA0
  rw [Tryd.params4] at hA hval
  obtain ⟨v0, vs0, d0, ds0, p0, q0, hargs, rfl, rfl, h0, r0⟩ := trodAll_cons hA
  obtain ⟨rfl, rfl, rfl⟩ := trodAll_nil r0
  obtain rfl : args = #[v0] := by cases args; simp_all
  obtain ⟨rfl, rfl⟩ := trodVars_none hV
  obtain ⟨s, rfl, rfl, rfl, hs⟩ := Go.ChangeMaps.open_string Tryd.underlying9 (hval 0 9 v0 rfl rfl) h0
  exact (opsTable_any s W (tabW_of hL)).mono fun e W' ⟨he, hb⟩ => ⟨_, he, law_post laidOut opsTable_read4 rfl rfl Tryd.underlying4 hW' hb rfl⟩
theorem opsTable_met (os : Os) : laidMet Tryd.prog Rows.opsTableRow.laid ((laidWorld os).forCall (fun _ _ => 0) ⟨#[], #[.string ByteArray.empty], []⟩).memory :=
  laidMet_of_run' 8 (by kernel_rfl) (by kernel_rfl)
theorem opsTable_reads (os : Os) {H : Type} (enc : TypeId × Value → H) : ∃ places, DataW.whole enc Tryd.prog ((laidWorld os).forCall (fun _ _ => 0) ⟨#[], #[.string ByteArray.empty], []⟩).memory Tryd.f4.params.toList Rows.opsTableSpec.vars false #[Value.string ByteArray.empty].toList 8 = some ([.lit (.string [])], [], places) :=
  ⟨[], by kernel_rfl⟩
set_option maxRecDepth 100000 in
theorem opsTable_lifted (os : Os) (started : os.Started) (H : Type) (enc : TypeId × Value → H) (F : Stop.Interp) :
    ReturnsInHanded {} Tryd.checked os 4 .any ((OpenSpec.ofChange Rows.opsTableSpec).preRow enc Tryd.prog Tryd.f4 Rows.opsTableRow.domain false Rows.opsTableRow.laid) (((OpenSpec.ofChange Rows.opsTableSpec).at F).post enc Tryd.prog Tryd.f4 false true false false) := by
  obtain ⟨places, hx⟩ := opsTable_reads os enc
  refine returnsInHanded_of_row (C := Tryd.checked) (s := OpenSpec.ofChange Rows.opsTableSpec) own started (by kernel_rfl) Tryd.func4
    (witness_row_at (enc := enc) (C := Tryd.checked) false (laidWorld os) #[.string ByteArray.empty] rfl (by kernel_rfl) (by kernel_rfl) (by kernel_rfl)
      (OpenSpec.preRow_of_cond 8 hx (by kernel_rfl) (fun k hk => by cases hk) (by kernel_rfl) (opsTable_met os))) ?_
  intro W base args ds gs before hval hW _ _ _ hL _ _
  exact opsTable_contract H enc W base args ds gs before hval hW hL
theorem opsTable_said : Rows.OpsTableSaid :=
  OpenClaim.holds_of_cond 4 Tryd.f4 rfl rfl rfl rfl rfl rfl rfl ⟨rfl, rfl, rfl, rfl, rfl⟩ rfl rfl rfl rfl rfl (by kernel_rfl) Tryd.func4 (by kernel_rfl)
    (of_decide_eq_true (by kernel_rfl)) (by unfold Func.isWrapper; first | (rw [if_pos (by decide +kernel)]; kernel_rfl) | (rw [if_neg (by decide +kernel)]; exact ⟨rfl, rfl⟩))
    (fun os started H enc _ F => by rw [OpenClaim.pre_eq_preRow]; exact opsTable_lifted os started H enc F)
theorem opsTable_plain (f : FuncId) (fn : Func) (hf : Tryd.pinned.checked.prog.funcNamed "coney/coneylaw04.OpsTable" = some f) (hfn : Tryd.pinned.checked.prog.funcs[f]? = some fn) :
    false = Tryd.pinned.checked.prog.looks [] ∧ ∀ (j : Nat) t, fn.params[j]? = some t → Tryd.pinned.checked.prog.wantsStandIn t = false := by
  obtain rfl : f = 4 := Option.some.inj ((show Tryd.prog.funcNamed "coney/coneylaw04.OpsTable" = some 4 by kernel_rfl).symm.trans hf) |>.symm
  obtain rfl : fn = Tryd.f4 := (Option.some.inj (Tryd.func4.symm.trans hfn)).symm
  refine ⟨by kernel_rfl, fun j t ht => ?_⟩
  rw [Tryd.params4] at ht
  obtain rfl : t = 9 := by simpa using Array.mem_of_getElem? ht
  exact (show Tryd.prog.wantsStandIn 9 = false by kernel_rfl)
theorem opsTable_card : Rows.OpsTableCardSaid :=
  Claim7.holds_tied_plain_at .later [] _ _ _ _ opsTable_said (fun _ h => by cases h) (by kernel_rfl) (fun _ h => by cases h) opsTable_row_tie rfl ⟨rfl, rfl⟩ (by kernel_rfl) rfl opsTable_plain (by kernel_rfl)

theorem opsSides_read3 : Tryd.f3.params.toList.all (fun t => Tryd.prog.readableRec t && decide (t < Tryd.prog.types.size)) = true := by kernel_rfl
theorem opsSides_contract (H : Type) (enc : TypeId × Value → H) (W : World) (base : Nat) (args : Array Value) (ds gs : List (DataW H)) (before : List MemPlace)
    (hval : ∀ (j : Nat) t v, Tryd.f3.params[j]? = some t → args[j]? = some v → Value.okWide Tryd.prog W .any base t v)
    (hW : DataW.Whole enc Tryd.prog Tryd.f3.params.toList Rows.opsSidesSpec.vars false W args.toList ds gs before) (hL : laidMetH Tryd.prog Rows.opsSidesRow.laid W) :
    Calls Tryd.prog 3 args W fun e W' => ∃ v, e = .returned v ∧ Rows.opsSidesSpec.post enc Tryd.prog Tryd.f3 false true false false W args v W' := by
  have hW' := hW
  obtain ⟨p, q, hA0, hV, rfl, hfz, hnd⟩ := hW
  have hA : DataW.TrodAll enc Tryd.prog W 0 (fun _ => true) true Tryd.f3.params.toList args.toList ds p := hA0
  rw [Tryd.params3] at hA hval
  obtain ⟨v0, vs0, d0, ds0, p0, q0, hargs, rfl, rfl, h0, r0⟩ := trodAll_cons hA
  obtain ⟨rfl, rfl, rfl⟩ := trodAll_nil r0
  obtain rfl : args = #[v0] := by cases args; simp_all
  obtain ⟨rfl, rfl⟩ := trodVars_none hV
  obtain ⟨s, rfl, rfl, rfl, hs⟩ := Go.ChangeMaps.open_string Tryd.underlying9 (hval 0 9 v0 rfl rfl) h0
  exact (opsSides_any s W (tabW_of hL)).mono fun e W' ⟨he, hb⟩ => ⟨_, he, law_post laidOut opsSides_read3 rfl rfl Tryd.underlying4 hW' hb rfl⟩
theorem opsSides_met (os : Os) : laidMet Tryd.prog Rows.opsSidesRow.laid ((laidWorld os).forCall (fun _ _ => 0) ⟨#[], #[.string ByteArray.empty], []⟩).memory :=
  laidMet_of_run' 8 (by kernel_rfl) (by kernel_rfl)
theorem opsSides_reads (os : Os) {H : Type} (enc : TypeId × Value → H) : ∃ places, DataW.whole enc Tryd.prog ((laidWorld os).forCall (fun _ _ => 0) ⟨#[], #[.string ByteArray.empty], []⟩).memory Tryd.f3.params.toList Rows.opsSidesSpec.vars false #[Value.string ByteArray.empty].toList 8 = some ([.lit (.string [])], [], places) :=
  ⟨[], by kernel_rfl⟩
set_option maxRecDepth 100000 in
theorem opsSides_lifted (os : Os) (started : os.Started) (H : Type) (enc : TypeId × Value → H) (F : Stop.Interp) :
    ReturnsInHanded {} Tryd.checked os 3 .any ((OpenSpec.ofChange Rows.opsSidesSpec).preRow enc Tryd.prog Tryd.f3 Rows.opsSidesRow.domain false Rows.opsSidesRow.laid) (((OpenSpec.ofChange Rows.opsSidesSpec).at F).post enc Tryd.prog Tryd.f3 false true false false) := by
  obtain ⟨places, hx⟩ := opsSides_reads os enc
  refine returnsInHanded_of_row (C := Tryd.checked) (s := OpenSpec.ofChange Rows.opsSidesSpec) own started (by kernel_rfl) Tryd.func3
    (witness_row_at (enc := enc) (C := Tryd.checked) false (laidWorld os) #[.string ByteArray.empty] rfl (by kernel_rfl) (by kernel_rfl) (by kernel_rfl)
      (OpenSpec.preRow_of_cond 8 hx (by kernel_rfl) (fun k hk => by cases hk) (by kernel_rfl) (opsSides_met os))) ?_
  intro W base args ds gs before hval hW _ _ _ hL _ _
  exact opsSides_contract H enc W base args ds gs before hval hW hL
theorem opsSides_said : Rows.OpsSidesSaid :=
  OpenClaim.holds_of_cond 3 Tryd.f3 rfl rfl rfl rfl rfl rfl rfl ⟨rfl, rfl, rfl, rfl, rfl⟩ rfl rfl rfl rfl rfl (by kernel_rfl) Tryd.func3 (by kernel_rfl)
    (of_decide_eq_true (by kernel_rfl)) (by unfold Func.isWrapper; first | (rw [if_pos (by decide +kernel)]; kernel_rfl) | (rw [if_neg (by decide +kernel)]; exact ⟨rfl, rfl⟩))
    (fun os started H enc _ F => by rw [OpenClaim.pre_eq_preRow]; exact opsSides_lifted os started H enc F)
theorem opsSides_plain (f : FuncId) (fn : Func) (hf : Tryd.pinned.checked.prog.funcNamed "coney/coneylaw04.OpsSides" = some f) (hfn : Tryd.pinned.checked.prog.funcs[f]? = some fn) :
    false = Tryd.pinned.checked.prog.looks [] ∧ ∀ (j : Nat) t, fn.params[j]? = some t → Tryd.pinned.checked.prog.wantsStandIn t = false := by
  obtain rfl : f = 3 := Option.some.inj ((show Tryd.prog.funcNamed "coney/coneylaw04.OpsSides" = some 3 by kernel_rfl).symm.trans hf) |>.symm
  obtain rfl : fn = Tryd.f3 := (Option.some.inj (Tryd.func3.symm.trans hfn)).symm
  refine ⟨by kernel_rfl, fun j t ht => ?_⟩
  rw [Tryd.params3] at ht
  obtain rfl : t = 9 := by simpa using Array.mem_of_getElem? ht
  exact (show Tryd.prog.wantsStandIn 9 = false by kernel_rfl)
theorem opsSides_card : Rows.OpsSidesCardSaid :=
  Claim7.holds_tied_plain_at .later [] _ _ _ _ opsSides_said (fun _ h => by cases h) (by kernel_rfl) (fun _ h => by cases h) opsSides_row_tie rfl ⟨rfl, rfl⟩ (by kernel_rfl) rfl opsSides_plain (by kernel_rfl)

theorem opsKnown_read5 : Tryd.f5.params.toList.all (fun t => Tryd.prog.readableRec t && decide (t < Tryd.prog.types.size)) = true := by kernel_rfl
theorem opsKnown_contract (H : Type) (enc : TypeId × Value → H) (W : World) (base : Nat) (args : Array Value) (ds gs : List (DataW H)) (before : List MemPlace)
    (hval : ∀ (j : Nat) t v, Tryd.f5.params[j]? = some t → args[j]? = some v → Value.okWide Tryd.prog W .any base t v)
    (hW : DataW.Whole enc Tryd.prog Tryd.f5.params.toList Rows.opsKnownSpec.vars false W args.toList ds gs before) (hL : laidMetH Tryd.prog Rows.opsKnownRow.laid W) :
    Calls Tryd.prog 5 args W fun e W' => ∃ v, e = .returned v ∧ Rows.opsKnownSpec.post enc Tryd.prog Tryd.f5 false true false false W args v W' := by
  have hW' := hW
  obtain ⟨p, q, hA0, hV, rfl, hfz, hnd⟩ := hW
  have hA : DataW.TrodAll enc Tryd.prog W 0 (fun _ => true) true Tryd.f5.params.toList args.toList ds p := hA0
  rw [Tryd.params5] at hA hval
  obtain ⟨v0, vs0, d0, ds0, p0, q0, hargs, rfl, rfl, h0, r0⟩ := trodAll_cons hA
  obtain ⟨rfl, rfl, rfl⟩ := trodAll_nil r0
  obtain rfl : args = #[v0] := by cases args; simp_all
  obtain ⟨rfl, rfl⟩ := trodVars_none hV
  obtain ⟨s, rfl, rfl, rfl, hs⟩ := Go.ChangeMaps.open_string Tryd.underlying9 (hval 0 9 v0 rfl rfl) h0
  exact (opsKnown_any s W (tabW_of hL)).mono fun e W' ⟨he, hb⟩ => ⟨_, he, law_post laidOut opsKnown_read5 rfl rfl Tryd.underlying4 hW' hb rfl⟩
theorem opsKnown_met (os : Os) : laidMet Tryd.prog Rows.opsKnownRow.laid ((laidWorld os).forCall (fun _ _ => 0) ⟨#[], #[.string ByteArray.empty], []⟩).memory :=
  laidMet_of_run' 8 (by kernel_rfl) (by kernel_rfl)
theorem opsKnown_reads (os : Os) {H : Type} (enc : TypeId × Value → H) : ∃ places, DataW.whole enc Tryd.prog ((laidWorld os).forCall (fun _ _ => 0) ⟨#[], #[.string ByteArray.empty], []⟩).memory Tryd.f5.params.toList Rows.opsKnownSpec.vars false #[Value.string ByteArray.empty].toList 8 = some ([.lit (.string [])], [], places) :=
  ⟨[], by kernel_rfl⟩
set_option maxRecDepth 100000 in
theorem opsKnown_lifted (os : Os) (started : os.Started) (H : Type) (enc : TypeId × Value → H) (F : Stop.Interp) :
    ReturnsInHanded {} Tryd.checked os 5 .any ((OpenSpec.ofChange Rows.opsKnownSpec).preRow enc Tryd.prog Tryd.f5 Rows.opsKnownRow.domain false Rows.opsKnownRow.laid) (((OpenSpec.ofChange Rows.opsKnownSpec).at F).post enc Tryd.prog Tryd.f5 false true false false) := by
  obtain ⟨places, hx⟩ := opsKnown_reads os enc
  refine returnsInHanded_of_row (C := Tryd.checked) (s := OpenSpec.ofChange Rows.opsKnownSpec) own started (by kernel_rfl) Tryd.func5
    (witness_row_at (enc := enc) (C := Tryd.checked) false (laidWorld os) #[.string ByteArray.empty] rfl (by kernel_rfl) (by kernel_rfl) (by kernel_rfl)
      (OpenSpec.preRow_of_cond 8 hx (by kernel_rfl) (fun k hk => by cases hk) (by kernel_rfl) (opsKnown_met os))) ?_
  intro W base args ds gs before hval hW _ _ _ hL _ _
  exact opsKnown_contract H enc W base args ds gs before hval hW hL
theorem opsKnown_said : Rows.OpsKnownSaid :=
  OpenClaim.holds_of_cond 5 Tryd.f5 rfl rfl rfl rfl rfl rfl rfl ⟨rfl, rfl, rfl, rfl, rfl⟩ rfl rfl rfl rfl rfl (by kernel_rfl) Tryd.func5 (by kernel_rfl)
    (of_decide_eq_true (by kernel_rfl)) (by unfold Func.isWrapper; first | (rw [if_pos (by decide +kernel)]; kernel_rfl) | (rw [if_neg (by decide +kernel)]; exact ⟨rfl, rfl⟩))
    (fun os started H enc _ F => by rw [OpenClaim.pre_eq_preRow]; exact opsKnown_lifted os started H enc F)
theorem opsKnown_plain (f : FuncId) (fn : Func) (hf : Tryd.pinned.checked.prog.funcNamed "coney/coneylaw04.OpsKnown" = some f) (hfn : Tryd.pinned.checked.prog.funcs[f]? = some fn) :
    false = Tryd.pinned.checked.prog.looks [] ∧ ∀ (j : Nat) t, fn.params[j]? = some t → Tryd.pinned.checked.prog.wantsStandIn t = false := by
  obtain rfl : f = 5 := Option.some.inj ((show Tryd.prog.funcNamed "coney/coneylaw04.OpsKnown" = some 5 by kernel_rfl).symm.trans hf) |>.symm
  obtain rfl : fn = Tryd.f5 := (Option.some.inj (Tryd.func5.symm.trans hfn)).symm
  refine ⟨by kernel_rfl, fun j t ht => ?_⟩
  rw [Tryd.params5] at ht
  obtain rfl : t = 9 := by simpa using Array.mem_of_getElem? ht
  exact (show Tryd.prog.wantsStandIn 9 = false by kernel_rfl)
theorem opsKnown_card : Rows.OpsKnownCardSaid :=
  Claim7.holds_tied_plain_at .later [] _ _ _ _ opsKnown_said (fun _ h => by cases h) (by kernel_rfl) (fun _ h => by cases h) opsKnown_row_tie rfl ⟨rfl, rfl⟩ (by kernel_rfl) rfl opsKnown_plain (by kernel_rfl)
end Go.Proofs.YthdjpealdpkggaaDoor
