/-
  renaming.alike, and term.Variant, walked.
  term.Variant, walked.
  A LIST OF TERMS OF THE CALL'S OWN THAT GROWS: by one term, by a list of terms; one term stored into it. Over any program.
  term.Vars, walked.
  coneyref07.Size, walked.
-/
import Derived.Test.YtmffobadnmkpbaaKtmo3
import Derived.Test.YtmffobadnmkpbaaKtmo2
import Derived.Test.YtmffobadnmkpbaaKpars1
import Derived.Test.YtmffobadnmkpbaaKpars2
import Derived.Maps.AppendAt
import Derived.Laws.EntriesVeiled
import Derived.Test.YtmffobadnmkpbaaKlib1
namespace Go.Proofs.Ytmffobadnmkpbaa
open Go.RowKit Go.Maps

theorem kk4v {W : World} {b : Nat} {x0 x1 x2 x3 : Value} (h : BoxL W b [x0, x1, x2, x3]) : W.cell? ⟨b, 0, none⟩ = some x0 ∧ W.cell? ⟨b, 1, none⟩ = some x1 ∧ W.cell? ⟨b, 2, none⟩ = some x2 ∧ W.cell? ⟨b, 3, none⟩ = some x3 := ⟨(h.get 0 rfl).1, (h.get 1 rfl).1, (h.get 2 rfl).1, (h.get 3 rfl).1⟩
theorem alikeT_no {r : List (Int × Int)} {t u : Tm} (h : skT t u = false) : alikeT r t u = none := by simp [alikeT, h]
set_option maxRecDepth 100000 in
set_option maxHeartbeats 6400000 in
theorem alike_step (B b1 b2 : Nat) (hB1 : B ≤ b1) (hB2 : B ≤ b2) (t : Tm) (r : List (Int × Int)) (u : Tm) (va vb : Value) (w : World) (hr : RenAt w b1 b2 r) (ha : TmAt (fun b => b < B) w t va) (hb : TmAt (fun b => b < B) w u vb) (hoa : t.ok) (hob : u.ok) (hn : r.length + t.size ≤ 1000000) (hC : ∀ x ∈ t.args, AlikeC B b1 b2 x) :
    Calls Try.prog 75 #[.agg #[.map (some b1), .map (some b2)], tmV t va, tmV u vb] w (RetPair (alikeT r t u) B b1 b2 w) := by
  have h4a := fun h => ha.nil_of h
  have h4b := fun h => hb.nil_of h
  obtain ⟨p1, q1, rfl, _, _⟩ := ha.shape
  obtain ⟨p2, q2, rfl, _, _⟩ := hb.shape
  have hla : t.args.length ≤ 1000000 := by have h1 := Tm.sizes_len t.args; have h2 := t.size_eq; omega
  have hlt1 := hr.m1.lt
  have hlt2 := hr.m2.lt
  have al : ∀ (W : World) (o : Obj) (B : Nat), B ≤ W.heap.size → Below B W (W.alloc o) := fun W o B h => (Below.refl B W).alloc h o
  obtain ⟨V, hV⟩ : ∃ V, V = ((w.alloc (.cells #[.map (some b1), .map (some b2)] 88)).alloc (.cells #[.int .i64 t.kind, .int .i64 t.num, .string t.name, .slice p1 t.args.length q1] 24)).alloc (.cells #[.int .i64 u.kind, .int .i64 u.num, .string u.name, .slice p2 u.args.length q2] 24) := ⟨_, rfl⟩
  have hbV : Below w.heap.size w V := by rw [hV]; exact ((al _ _ _ (Nat.le_refl _)).trans (al _ _ _ (by simp))).trans (al _ _ _ (by simp; omega))
  have BV := Lib.hid hbV
  have hB : B ≤ w.heap.size := by omega
  have HBL := Lib.hid hB
  have RV := Lib.hid (hr.below hbV)
  have X3 : Hid (BoxL V w.heap.size [.map (some b1), .map (some b2)]) := by rw [hV]; exact ((BoxL.mk' w #[.map (some b1), .map (some b2)] 88).below (al _ _ (w.heap.size + 1) (by simp)) (by omega)).below (al _ _ (w.heap.size + 1) (by simp)) (by omega)
  have X4 : Hid (BoxL V (w.heap.size + 1) [.int .i64 t.kind, .int .i64 t.num, .string t.name, .slice p1 t.args.length q1]) := by
    rw [hV]
    have h := BoxL.mk' (w.alloc (.cells #[.map (some b1), .map (some b2)] 88)) #[.int .i64 t.kind, .int .i64 t.num, .string t.name, .slice p1 t.args.length q1] 24
    simp only [World.size_alloc] at h
    exact h.below (al _ _ (w.heap.size + 2) (by simp)) (by omega)
  have X5 : Hid (BoxL V (w.heap.size + 1 + 1) [.int .i64 u.kind, .int .i64 u.num, .string u.name, .slice p2 u.args.length q2]) := by
    rw [hV]
    have h := BoxL.mk' ((w.alloc (.cells #[.map (some b1), .map (some b2)] 88)).alloc (.cells #[.int .i64 t.kind, .int .i64 t.num, .string t.name, .slice p1 t.args.length q1] 24)) #[.int .i64 u.kind, .int .i64 u.num, .string u.name, .slice p2 u.args.length q2] 24
    simp only [World.size_alloc] at h
    exact h
  -- what a world knows where all but the maps stays
  have KS : Hid (∀ W, Kr b1 b2 V W → (W.cell? ⟨w.heap.size, 0, none⟩ = some (.map (some b1)) ∧ W.cell? ⟨w.heap.size, 1, none⟩ = some (.map (some b2)) ∧ W.cell? ⟨w.heap.size + 1, 0, none⟩ = some (.int .i64 t.kind) ∧ W.cell? ⟨w.heap.size + 1, 1, none⟩ = some (.int .i64 t.num) ∧ W.cell? ⟨w.heap.size + 1, 2, none⟩ = some (.string t.name) ∧ W.cell? ⟨w.heap.size + 1, 3, none⟩ = some (.slice p1 t.args.length q1) ∧ W.cell? ⟨w.heap.size + 1 + 1, 0, none⟩ = some (.int .i64 u.kind) ∧ W.cell? ⟨w.heap.size + 1 + 1, 1, none⟩ = some (.int .i64 u.num) ∧ W.cell? ⟨w.heap.size + 1 + 1, 2, none⟩ = some (.string u.name) ∧ W.cell? ⟨w.heap.size + 1 + 1, 3, none⟩ = some (.slice p2 u.args.length q2))) := fun W h => by
    have k3 := X3.out.block (h.2 _ (X3.out.lt (by simp)) (by omega) (by omega))
    have k4 := kk4v (X4.out.block (h.2 _ (X4.out.lt (by simp)) (by omega) (by omega)))
    have k5 := kk4v (X5.out.block (h.2 _ (X5.out.lt (by simp)) (by omega) (by omega)))
    exact ⟨(k3.get 0 rfl).1, (k3.get 1 rfl).1, k4.1, k4.2.1, k4.2.2.1, k4.2.2.2, k5.1, k5.2.1, k5.2.2.1, k5.2.2.2⟩
  have CA : Hid (∀ W, Calls Try.prog 62 #[.agg #[.int .i64 t.kind, .int .i64 t.num, .string t.name, .slice p1 t.args.length q1]] W fun e w' => e = .returned (.slice p1 t.args.length q1) ∧ Below W.heap.size W w') := fun W => args_c t _ _ _ h4a W
  have CB : Hid (∀ W, Calls Try.prog 62 #[.agg #[.int .i64 u.kind, .int .i64 u.num, .string u.name, .slice p2 u.args.length q2]] W fun e w' => e = .returned (.slice p2 u.args.length q2) ∧ Below W.heap.size W w') := fun W => args_c u _ _ _ h4b W
  have HSK := Lib.hid (skT_eq t u)
  -- the end where nothing was turned
  have NO : Hid (∀ W, Below V.heap.size V W → alikeT r t u = none → RetPair (alikeT r t u) B b1 b2 w (.returned (.bool false)) W) := fun W h hx => by
    rw [hx]; exact ⟨rfl, (BV.out.trans (h.mono BV.out.size)).mono HBL.out, Kr.below (BV.out.trans (h.mono BV.out.size)), fun r' he => by cases he⟩
  have k0 := KS.out V (Kr.below (Below.refl _ _))
  obtain ⟨z0, z1, y0, y1, y2, y3, x0, x1, x2, x3⟩ := k0
  by_cases hk : t.kind = u.kind
  case neg =>
    have hkb : (t.kind != u.kind) = true := by simpa using hk
    have HX : Hid (alikeT r t u = none) := alikeT_no (by rw [HSK.out]; simp [hk])
    unfold tmV
    clear hr ha hb hC hoa hob hn h4a h4b hk
    go_enter Try.func75, Try.ntmps75
    go_upto_region 1 with (fail)
    rw [← hV]
    clear hV
    go_quiet (fail)
    go_wp2
    go_ret
    exact NO.out _ (below_drewT (Below.refl _ _) _) HX.out
  case pos =>
    have hkb : (t.kind != u.kind) = false := by simp [hk]
    have HK := Lib.hid hk
    have HR := Lib.hid hr
    have HA := Lib.hid ha
    have HB := Lib.hid hb
    have HOA := Lib.hid hoa
    have HOB := Lib.hid hob
    have HN := Lib.hid hn
    have HC := Lib.hid hC
    have HL1 := Lib.hid hlt1
    have hlb : u.args.length ≤ 9223372036854775807 := by have h := hb.shape; obtain ⟨_, _, h, h1, h2⟩ := h; simp only [Value.slice.injEq] at h; obtain ⟨_, _, rfl⟩ := h; unfold maxLen at h2; omega
    unfold tmV
    clear hr ha hb hC hoa hob hn h4a h4b hk
    go_enter Try.func75, Try.ntmps75
    go_upto_region 1 with (fail)
    rw [← hV]
    clear hV
    go_region_held3 (fun W => W.cell? ⟨w.heap.size, 0, none⟩ = some (.map (some b1)) ∧ W.cell? ⟨w.heap.size, 1, none⟩ = some (.map (some b2)) ∧ W.cell? ⟨w.heap.size + 1, 0, none⟩ = some (.int .i64 t.kind) ∧ W.cell? ⟨w.heap.size + 1, 1, none⟩ = some (.int .i64 t.num) ∧ W.cell? ⟨w.heap.size + 1, 2, none⟩ = some (.string t.name) ∧ W.cell? ⟨w.heap.size + 1, 3, none⟩ = some (.slice p1 t.args.length q1) ∧ W.cell? ⟨w.heap.size + 1 + 1, 0, none⟩ = some (.int .i64 u.kind) ∧ W.cell? ⟨w.heap.size + 1 + 1, 1, none⟩ = some (.int .i64 u.num) ∧ W.cell? ⟨w.heap.size + 1 + 1, 2, none⟩ = some (.string u.name) ∧ W.cell? ⟨w.heap.size + 1 + 1, 3, none⟩ = some (.slice p2 u.args.length q2))
      ((first | exact KS.out _ (Kr.below P2.out) | exact KS.out _ (Kr.below P1.out) | (refine KS.out _ (Kr.below ?_); go_grown)))
      (first
        | (go_at_call 62; ((with_reducible refine (CA.out _).mono ?_); rintro e W1 ⟨rfl, bb⟩; have P1 : Hid (Below V.heap.size V W1) := Below.trans (B := V.heap.size) (by go_grown) (bb.mono (by go_size)); clear bb))
        | (go_at_call 62; ((with_reducible refine (CB.out _).mono ?_); rintro e W2 ⟨rfl, bb⟩; have P2 : Hid (Below V.heap.size V W2) := Below.trans (B := V.heap.size) P1.out (bb.mono P1.out.size); clear bb)))
    clear z0 z1 y0 y1 y2 y3 x0 x1 x2 x3
    obtain ⟨z0, z1, y0, y1, y2, y3, x0, x1, x2, x3⟩ := KS.out _ (Kr.below P2.out)
    by_cases hl : t.args.length = u.args.length
    case neg =>
      have hlb : ((t.args.length : Int) != u.args.length) = true := by simp; omega
      have HX : Hid (alikeT r t u = none) := alikeT_no (by rw [HSK.out]; simp [hl])
      clear hl
      go_wp2
      go_ret
      exact NO.out _ P2.out HX.out
    case pos =>
      have hlb : ((t.args.length : Int) != u.args.length) = false := by simp [hl]
      have HL := Lib.hid hl
      have R2 := Lib.hid (RV.out.below P2.out)
      have W2B := Lib.hid (BV.out.trans (P2.out.mono BV.out.size))
      clear hl
      by_cases h1 : t.kind = 1
      · obtain ⟨n, htn, hn5⟩ := Tm.ok_var HOA.out h1
        obtain ⟨m, hum, hm5⟩ := Tm.ok_var HOB.out (HK.out.symm.trans h1)
        have hkk : (t.kind == 1) = true := by simp [h1]
        have hn1 : t.num = (n : Int) := by rw [htn]; rfl
        have hm1 : u.num = (m : Int) := by rw [hum]; rfl
        have HX : Hid (alikeT r t u = pairR r n m) := by
          show _ = _
          rw [htn, hum]
          simp only [alikeT, skT, if_true, Tm.vs, List.zip_cons_cons, List.zip_nil_right, pairsR]
          cases pairR r n m <;> rfl
        have CP := Lib.hid (pair_c B b1 b2 r n m W2 R2.out hB1 hB2 (by have := HN.out; omega) (by omega) (by omega))
        have HXR : Hid (∀ e w', RetPair (pairR r n m) B b1 b2 W2 e w' → RetPair (alikeT r t u) B b1 b2 w e w') := fun e w' ⟨g1, g2, g3, g4⟩ => by
          rw [HX.out]; exact ⟨g1, (W2B.out.mono HBL.out).trans g2, (Kr.below W2B.out).trans g3, g4⟩
        have y1' := y1
        have x1' := x1
        rw [hn1] at y1'
        rw [hm1] at x1'
        clear h1 htn hum y1 x1 NO HX
        generalize pairR r n m = x at *
        go_wp2_with (first | (go_at_call 109; ((with_reducible refine CP.out.mono ?_); rintro e W3 hret; have HW3 := Lib.hid (HXR.out _ _ hret); obtain ⟨rfl, -⟩ := hret)))
        go_ret
        exact HW3.out
      · have hk1 : (t.kind == 1) = false := by simpa using h1
        by_cases h2 : t.kind = 2
        · have hkk : (t.kind == 2) = true := by simp [h2]
          have HX : Hid (alikeT r t u = if (t.num == u.num) = true then some r else none) := by
            show _ = _
            unfold alikeT
            rw [HSK.out]
            have e1 : t.vs = [] := by cases t <;> simp [Tm.kind] at h2; rfl
            simp [HK.out ▸ h2, HK.out, HL.out, e1, pairsR]
          have HXT : Hid ((t.num == u.num) = true → RetPair (alikeT r t u) B b1 b2 w (.returned (.bool true)) W2) := fun h => by
            rw [HX.out, if_pos h]; exact ⟨rfl, W2B.out.mono HBL.out, Kr.below W2B.out, fun r' he => by simp only [Option.some.injEq] at he; subst he; exact R2.out⟩
          have HXF : Hid ((t.num == u.num) = false → RetPair (alikeT r t u) B b1 b2 w (.returned (.bool false)) W2) := fun h => NO.out _ P2.out (by rw [HX.out]; simp [h])
          clear h1 h2 NO HX
          cases he : (t.num == u.num) with
          | true =>
            have H9 := Lib.hid (HXT.out he)
            clear HXT HXF
            go_wp2
            go_ret
            exact H9.out
          | false =>
            have H9 := Lib.hid (HXF.out he)
            clear HXT HXF
            go_wp2
            go_ret
            exact H9.out
        · have hk2 : (t.kind == 2) = false := by simpa using h2
          cases hnm : (t.name.toList == u.name.toList) with
          | false =>
            have HX : Hid (alikeT r t u = none) := alikeT_no (by rw [HSK.out]; simp [h1, h2, hnm])
            clear h1 h2
            go_upto_region 8 with (fail)
            go_quiet (fail)
            go_wp2
            go_ret
            exact NO.out _ (below_drewT P2.out _) HX.out
          | true =>
            have e1 : t.vs = Tm.vss t.args := Tm.vs_args h1
            have e2 : u.vs = Tm.vss u.args := Tm.vs_args (fun h => h1 (HK.out.trans h))
            have HX : Hid (alikeT r t u = alikeL r t.args u.args) := by
              show _ = _
              unfold alikeT alikeL
              rw [HSK.out, e1, e2]
              simp only [HK.out, HL.out, hnm, Bool.true_and, decide_true]
              rw [if_neg (fun h => h1 (HK.out.trans h)), if_neg (fun h => h2 (HK.out.trans h))]
            have CE : Hid (∀ W, Below V.heap.size V W → Calls Try.prog 110 #[.slice p1 t.args.length q1, .slice p2 u.args.length q2, .func (.func 75) #[.agg #[.map (some b1), .map (some b2)]] #[]] W (RetPair (alikeL r t.args u.args) B b1 b2 W)) := fun W h => by
              have hw := BV.out.trans (h.mono BV.out.size)
              exact eqFunc_c B b1 b2 hB1 hB2 r _ _ t.args u.args W (RV.out.below h) ((TsAt.of_tm HA.out).inB (hw.mono HBL.out)) ((TsAt.of_tm HB.out).inB (hw.mono HBL.out)) (Tm.ok_args HOA.out) (Tm.ok_args HOB.out) HL.out (by have := HN.out; have := t.size_eq; omega) HC.out
            have HXR : Hid (∀ W e w', Below V.heap.size V W → RetPair (alikeL r t.args u.args) B b1 b2 W e w' → RetPair (alikeT r t u) B b1 b2 w e w' ∧ Kr b1 b2 V w') := fun W e w' h ⟨g1, g2, g3, g4⟩ => by
              have hw := BV.out.trans (h.mono BV.out.size)
              rw [HX.out]; exact ⟨⟨g1, (hw.mono HBL.out).trans g2, (Kr.below hw).trans g3, g4⟩, (Kr.below h).trans g3⟩
            clear h1 h2 NO HX e1 e2 HSK
            generalize alikeL r t.args u.args = x at *
            have P2' := P2
            go_upto_region 8 with (fail)
            go_region_held3 (fun W => W.cell? ⟨w.heap.size, 0, none⟩ = some (.map (some b1)) ∧ W.cell? ⟨w.heap.size, 1, none⟩ = some (.map (some b2)) ∧ W.cell? ⟨w.heap.size + 1, 0, none⟩ = some (.int .i64 t.kind) ∧ W.cell? ⟨w.heap.size + 1, 1, none⟩ = some (.int .i64 t.num) ∧ W.cell? ⟨w.heap.size + 1, 2, none⟩ = some (.string t.name) ∧ W.cell? ⟨w.heap.size + 1, 3, none⟩ = some (.slice p1 t.args.length q1) ∧ W.cell? ⟨w.heap.size + 1 + 1, 0, none⟩ = some (.int .i64 u.kind) ∧ W.cell? ⟨w.heap.size + 1 + 1, 1, none⟩ = some (.int .i64 u.num) ∧ W.cell? ⟨w.heap.size + 1 + 1, 2, none⟩ = some (.string u.name) ∧ W.cell? ⟨w.heap.size + 1 + 1, 3, none⟩ = some (.slice p2 u.args.length q2))
              ((first | exact KS.out _ HW5.out.2 | exact KS.out _ (Kr.below P4.out) | exact KS.out _ (Kr.below P3.out) | exact ⟨z0, z1, y0, y1, y2, y3, x0, x1, x2, x3⟩))
              (first
                | (go_at_call 62; ((with_reducible refine (CA.out _).mono ?_); rintro e W3 ⟨rfl, bb⟩; have P3 : Hid (Below V.heap.size V W3) := (Below.drew P2'.out).trans (Below.mono bb P2'.out.size); clear bb))
                | (go_at_call 62; ((with_reducible refine (CB.out _).mono ?_); rintro e W4 ⟨rfl, bb⟩; have P4 : Hid (Below V.heap.size V W4) := P3.out.trans (bb.mono P3.out.size); clear bb))
                | (go_at_call 110; ((with_reducible refine (CE.out _ P4.out).mono ?_); rintro e W5 hret; have HW5 := Lib.hid (HXR.out _ _ _ P4.out hret); obtain ⟨rfl, -⟩ := hret)))
            all_goals
              go_wp2
              go_ret
              exact HW5.out.1
theorem alike_all (B b1 b2 : Nat) (hB1 : B ≤ b1) (hB2 : B ≤ b2) (t : Tm) : AlikeC B b1 b2 t := by
  induction t using Tm.ind with
  | h4 s l ih => exact fun r u va vb w hr ha hb hoa hob hn => alike_step B b1 b2 hB1 hB2 _ r u va vb w hr ha hb hoa hob hn ih
  | _ => exact fun r u va vb w hr ha hb hoa hob hn => alike_step B b1 b2 hB1 hB2 _ r u va vb w hr ha hb hoa hob hn (by simp [Tm.args])
end Go.Proofs.Ytmffobadnmkpbaa
namespace Go.Proofs.Ytmffobadnmkpbaa
open Go.RowKit Go.Maps

set_option maxRecDepth 100000 in
set_option maxHeartbeats 3200000 in
theorem variant_c (t u : Tm) (va vb : Value) (w : World) (ha : TmAt (fun _ => True) w t va) (hb : TmAt (fun _ => True) w u vb) (hoa : t.ok) (hob : u.ok) (hn : t.size ≤ 1000000) :
    Calls Try.prog 29 #[tmV t va, tmV u vb] w fun e w' => e = .returned (.bool (variantB t u)) ∧ Below w.heap.size w w' := by
  obtain ⟨p1, q1, rfl, _, _⟩ := ha.shape
  obtain ⟨p2, q2, rfl, _, _⟩ := hb.shape
  have hmm := @run_makeMap Try.prog
  have al : ∀ (W : World) (o : Obj) (B : Nat), B ≤ W.heap.size → Below B W (W.alloc o) := fun W o B h => (Below.refl B W).alloc h o
  have HV : Hid (∀ V, V = ((((w.alloc (.cells #[.int .i64 t.kind, .int .i64 t.num, .string t.name, .slice p1 t.args.length q1] 24)).alloc (.cells #[.int .i64 u.kind, .int .i64 u.num, .string u.name, .slice p2 u.args.length q2] 24)).alloc (.map #[] 0)).alloc (.map #[] 0)) →
      Calls Try.prog 75 #[.agg #[.map (some (w.heap.size + 1 + 1)), .map (some (w.heap.size + 1 + 1 + 1))], .agg #[.int .i64 t.kind, .int .i64 t.num, .string t.name, .slice p1 t.args.length q1], .agg #[.int .i64 u.kind, .int .i64 u.num, .string u.name, .slice p2 u.args.length q2]] V fun e w' => e = .returned (.bool (variantB t u)) ∧ Below w.heap.size w w') := fun V hV => by
    have hbV : Below w.heap.size w V := by rw [hV]; exact (((al _ _ _ (Nat.le_refl _)).trans (al _ _ _ (by simp))).trans (al _ _ _ (by simp; omega))).trans (al _ _ _ (by simp; omega))
    have hR : RenAt V (w.heap.size + 1 + 1) (w.heap.size + 1 + 1 + 1) [] := by
      have h1 := IMapAt.made (P := Try.prog) (K := 3) (E := 3) ((w.alloc (.cells #[.int .i64 t.kind, .int .i64 t.num, .string t.name, .slice p1 t.args.length q1] 24)).alloc (.cells #[.int .i64 u.kind, .int .i64 u.num, .string u.name, .slice p2 u.args.length q2] 24))
      have h2 := IMapAt.made (P := Try.prog) (K := 3) (E := 3) (((w.alloc (.cells #[.int .i64 t.kind, .int .i64 t.num, .string t.name, .slice p1 t.args.length q1] 24)).alloc (.cells #[.int .i64 u.kind, .int .i64 u.num, .string u.name, .slice p2 u.args.length q2] 24)).alloc (.map #[] 0))
      simp only [World.size_alloc] at h1 h2
      rw [hV]
      exact ⟨(h1.block ((al _ _ (w.heap.size + 3) (by simp)).block _ (by omega))).congr (fun _ => rfl), h2.congr (fun _ => rfl), by omega, ⟨List.nodup_nil, List.nodup_nil⟩⟩
    exact (alike_all w.heap.size _ _ (by omega) (by omega) t [] u _ _ V hR (ha.mono fun b h _ => ⟨h, hbV.block b h⟩) (hb.mono fun b h _ => ⟨h, hbV.block b h⟩) hoa hob (by simpa using hn)).mono fun e w' ⟨g1, g2, _, _⟩ => ⟨g1, hbV.trans g2⟩
  unfold tmV
  clear ha hb hoa hob hn al
  go_enter Try.func29, Try.ntmps29
  go_wp2_with (first | (go_at_call 75; ((with_reducible refine (HV.out _ rfl).mono ?_); rintro e W3 ⟨rfl, bb⟩; have B3 := Lib.hid bb; clear bb)))
  go_ret
  exact ⟨rfl, B3.out⟩
end Go.Proofs.Ytmffobadnmkpbaa
namespace Go.Proofs.Ytmffobadnmkpbaa
open Go.RowKit

/-- 'append(out, s...)', out the call's own, s whatever slice: telling where it lies -/
theorem wpList_append_slX {P : Program} {w0 : World} {ops : Array Oper} {rest : List Oper} {o : Oper} {a : Act} {Q : Exit → Act → World → Prop} (hgd : o.guard = none) (s x : Operand) (t : TypeId)
    (ho : o.op = .call { callee := .builtin .append, args := #[s, x], argTypes := #[t, t] })
    (base : Nat) (e : TypeId) (i : TypeInfo) (z : Value) (size bytes : Nat) (ht : P.underlying t = some (.slice e)) (hi : P.info? e = some i) (hz : i.zero = some z)
    (hsize : i.size = size) (hby : i.bytes = bytes) (hzs : z.cells.size = size) (hsz : 0 < size)
    (v : Value) (n : Nat) (xs : List Value) (hs : a.eval s = v) (hown : w0.ownsRow base e size v n xs)
    (vx : Value) (m : Nat) (ys : List Value) (hx : a.eval x = vx) (hsl : SlAt w0 size vx m ys) (h1 : ∀ u ∈ ys, u.oneCell' = true)
    (hbytes : (n + m) * bytes ≤ 140737488355328 ∧ n + m ≤ 140737488355328) (hbase : base ≤ w0.heap.size)
    (h : ∀ v' w', w'.ownsRow base e size v' (n + m) (xs ++ ys) → Below base w0 w' → KeepsBut w0 w' v → (v'.ownBlock = v.ownBlock ∨ v'.ownBlock = some w0.heap.size) → wpList P ops Q rest (a.put o.dst v') w') :
    wpList P ops Q (o :: rest) a w0 := by
  obtain ⟨hl, ao, cap, rfl, h2, h3, h5, h4⟩ := hsl
  cases ao with
  | none =>
    obtain rfl := h5 rfl
    obtain rfl : m = 0 := by omega
    obtain rfl : ys = [] := List.eq_nil_of_length_eq_zero (by omega)
    refine wpList_append_own_none hgd s x t ho base e i size ht hi v n xs hs hown hx ?_
    exact h v w0 (by simpa using hown) (Below.refl _ _) (fun _ _ _ => rfl) (.inl rfl)
  | some ad =>
    refine wpList_append_own_at w0 hgd s x t ho base e i z size bytes ht hi hz hsize hby hzs hsz v n xs hs hown ad m cap ys hx hl (fun j u hj => ?_) h1 (by unfold maxLen; omega) hbytes.1 hbase (fun v' w' r1 r2 _ r5 => h v' w' r1 ?_ (fun b hb hne => r2.block b hb (fun he => hne he.symm)) r5)
    · have hj' : j < m * size := by rw [← hl]; exact (List.getElem?_eq_some_iff.1 hj).1
      obtain ⟨b, off, he, _, hc⟩ := h4 (by omega)
      injection he with he; subst he
      rw [Go.WideShapes.add_plain, hc j hj', hj]
    · exact (Below.refl base w0).grown r2 hbase (ownBlock_ge hown)

/-- a list of terms in a row of the call's own; the terms' arguments lie elsewhere, in blocks that are such -/
structure OwnTs (p : Nat → Prop) (base : Nat) (w : World) (v : Value) (L : List (Tm × Value)) : Prop where
  own : w.ownsRow base 24 4 v L.length (tmCs L)
  tms : ∀ x ∈ L, TmAt (fun b => v.ownBlock ≠ some b ∧ p b) w x.1 x.2
theorem OwnTs.below {p : Nat → Prop} {base : Nat} {w w' : World} {v : Value} {L : List (Tm × Value)} (h : OwnTs p base w v L) (hb : Below w.heap.size w w') : OwnTs p base w' v L :=
  ⟨own_below h.own hb, fun x hx => (h.tms x hx).grow hb fun _ _ h => h⟩
theorem OwnTs.weaken {p p' : Nat → Prop} {base base' : Nat} {w : World} {v : Value} {L : List (Tm × Value)} (h : OwnTs p base w v L) (hb : base' ≤ base) (hp : ∀ b, p b → p' b) : OwnTs p' base' w v L := by
  refine ⟨⟨h.own.1, ?_⟩, fun x hx => (h.tms x hx).mono fun b _ hb' => ⟨⟨hb'.1, hp b hb'.2⟩, rfl⟩⟩
  rcases h.own.2 with hn | ⟨g, cap, cur, e, hg, rest⟩
  · exact .inl hn
  · exact .inr ⟨g, cap, cur, e, Nat.le_trans hb hg, rest⟩
theorem OwnTs.at {p : Nat → Prop} {base : Nat} {w : World} {v : Value} {L : List (Tm × Value)} (h : OwnTs p base w v L) : TsAt (fun _ => True) w v (L.map Prod.fst) :=
  TsAt.of_sl (SlAt.of_own h.own) (fun _ _ => trivial) (fun x hx => (h.tms x hx).any)
theorem OwnTs.shape {p : Nat → Prop} {base : Nat} {w : World} {v : Value} {L : List (Tm × Value)} (h : OwnTs p base w v L) : ∃ ao cap, v = .slice ao L.length cap ∧ L.length ≤ cap ∧ cap ≤ maxLen := (SlAt.of_own h.own).shape
/-- terms stay where a row that is none of theirs grows -/
theorem TmAt.keptBut {p : Nat → Prop} {w w' : World} {v v' : Value} {t : Tm} {a : Value} (h : TmAt (fun b => v.ownBlock ≠ some b ∧ p b) w t a) (hk : KeepsBut w w' v) (hp : ∀ g, v'.ownBlock = some g → v.ownBlock = some g ∨ w.heap.size ≤ g) : TmAt (fun b => v'.ownBlock ≠ some b ∧ p b) w' t a :=
  h.mono fun b hb hp' => ⟨⟨fun he => by rcases hp b he with e | e; (· exact hp'.1 e); (· omega), hp'.2⟩, hk b hb hp'.1⟩
theorem lies_or {w : World} {v v' : Value} (h : v'.ownBlock = v.ownBlock ∨ v'.ownBlock = some w.heap.size) : ∀ g, v'.ownBlock = some g → v.ownBlock = some g ∨ w.heap.size ≤ g := fun g hg => by
  rcases h with e | e
  · exact .inl (e ▸ hg)
  · rw [e] at hg; simp at hg; exact .inr (by omega)
theorem lies_at {w : World} {v : Value} {g n cap : Nat} (h : v.ownBlock = some g ∨ w.heap.size ≤ g) : ∀ k, (Value.slice (some ⟨g, 0, none⟩) n cap).ownBlock = some k → v.ownBlock = some k ∨ w.heap.size ≤ k := fun k hk => by
  have e : g = k := by simpa [Value.ownBlock] using hk
  subst e; exact h
theorem OwnTs.grow {p : Nat → Prop} {base : Nat} {w w' : World} {v v' : Value} {L X : List (Tm × Value)} (h : OwnTs p base w v L) (hX : ∀ x ∈ X, TmAt (fun b => v.ownBlock ≠ some b ∧ p b) w x.1 x.2)
    (ho : w'.ownsRow base 24 4 v' (L.length + X.length) (tmCs L ++ tmCs X)) (hk : KeepsBut w w' v) (hp : ∀ g, v'.ownBlock = some g → v.ownBlock = some g ∨ w.heap.size ≤ g) : OwnTs p base w' v' (L ++ X) := by
  refine ⟨by rw [tmCs_append]; simpa using ho, fun x hx => ?_⟩
  rcases List.mem_append.1 hx with hx | hx
  · exact (h.tms x hx).keptBut hk hp
  · exact (hX x hx).keptBut hk hp
/-- a term pushed by 'append' at one element laid just before -/
theorem OwnTs.push {p : Nat → Prop} {base : Nat} {w w' : World} {v : Value} {L : List (Tm × Value)} {t : Tm} {a : Value} {g cap : Nat} (h : OwnTs p base w v L) (ht : TmAt (fun b => v.ownBlock ≠ some b ∧ p b) w t a)
    (ho : w'.ownsRow base 24 4 (.slice (some ⟨g, 0, none⟩) (L.length + 1) cap) (L.length + 1) (tmCs L ++ (#[.int .i64 t.kind, .int .i64 t.num, .string t.name, a] : Array Value).toList)) (hk : KeepsBut w w' v) (hp : v.ownBlock = some g ∨ w.heap.size ≤ g) : OwnTs p base w' (.slice (some ⟨g, 0, none⟩) (L.length + 1) cap) (L ++ [(t, a)]) :=
  h.grow (X := [(t, a)]) (fun x hx => by simp only [List.mem_singleton] at hx; subst hx; exact ht) (by simpa [tmCs, tmC] using ho) hk (lies_at hp)
theorem OwnTs.made (p : Nat → Prop) (w : World) : OwnTs p w.heap.size (w.alloc (.cells #[] 24)) (.slice (some ⟨w.heap.size, 0, none⟩) 0 0) [] :=
  ⟨World.ownsRow_made (base := w.heap.size) (size := 4) (e := 24) w #[] 0 (by simp) (by decide) rfl, by simp⟩
theorem OwnTs.none (p : Nat → Prop) (base : Nat) (w : World) : OwnTs p base w (.slice Option.none 0 0) [] := ⟨⟨rfl, .inl ⟨rfl, rfl⟩⟩, by simp⟩
/-- what returns such a list of terms, in new memory -/
def RetOwnT (p : Nat → Prop) (G : List Tm) (w : World) (e : Ending) (w' : World) : Prop := ∃ ao cap Lv, e = .returned (.slice ao Lv.length cap) ∧ OwnTs (fun b => (p b ∧ b < w.heap.size) ∨ w.heap.size ≤ b) w.heap.size w' (.slice ao Lv.length cap) Lv ∧ Lv.map Prod.fst = G ∧ Below w.heap.size w w'
/-- a store into the row itself -/
theorem own_store {w : World} {base : Nat} {e : TypeId} {size g n cap : Nat} {xs : List Value} (h : w.ownsRow base e size (.slice (some ⟨g, 0, none⟩) n cap) n xs) (i : Nat) (_hi : i < n * size) (u : Value) :
    (w.setCell ⟨g, i, none⟩ u).ownsRow base e size (.slice (some ⟨g, 0, none⟩) n cap) n (xs.set i u) := by
  refine ⟨by rw [List.length_set]; exact h.1, .inr ?_⟩
  rcases h.2 with ⟨he, _⟩ | ⟨g', cap', cur, he, hg, hgg, h1, h2, h3, h4⟩
  · cases he
  · simp only [Value.slice.injEq, Option.some.injEq, Addr.mk.injEq, and_true] at he
    obtain ⟨rfl, _, rfl⟩ := he
    refine ⟨g, cap, cur.setIfInBounds i u, rfl, hg, ?_, h1, h2, by simpa using h3, ?_⟩
    · simp only [World.setCell]
      rw [Array.getElem?_modify, if_pos rfl, hgg]; rfl
    · rw [← h4, Array.toList_setIfInBounds, List.take_set]
end Go.Proofs.Ytmffobadnmkpbaa
namespace Go.Proofs.Ytmffobadnmkpbaa
open Go.RowKit

theorem walk_all (h : Nat) (w0 : World) (hh : w0.heap.size = h) (t : Tm) : WalkC h w0 t := by
  induction t using Tm.ind with
  | h4 s l ih => exact fun va wr v L hB ht hok hn => walk_step h w0 hh _ va wr v L hB ht hok hn ih
  | _ => exact fun va wr v L hB ht hok hn => walk_step h w0 hh _ va wr v L hB ht hok hn (by simp [Tm.args])
theorem VB.start (w : World) (o : Obj) :
    VB w.heap.size w (((((w.alloc o).alloc (.cells #[.slice none 0 0] 29)).alloc (.map #[] 0)).alloc (.cells #[.map (some (w.heap.size + 1 + 1))] 74)).alloc (.cells #[.func (.func 63) #[] #[.pointer (some ⟨w.heap.size + 1 + 1 + 1, 0, none⟩), .pointer (some ⟨w.heap.size + 1, 0, none⟩), .pointer (some ⟨w.heap.size + 1 + 1 + 1 + 1, 0, none⟩)]] 75)) (.slice none 0 0) [] [] := by
  have al : ∀ (W : World) (o : Obj) (B : Nat), B ≤ W.heap.size → Below B W (W.alloc o) := fun W o B h => (Below.refl B W).alloc h o
  refine ⟨?_, ⟨rfl, .inl ⟨rfl, rfl⟩⟩, ?_, ?_, ?_, ?_, by simp⟩
  · have h := Box1.mk' (w.alloc o) (.slice none 0 0) 29
    rw [show (w.alloc o).heap.size = w.heap.size + 1 by simp] at h
    exact ((h.below (al _ _ (w.heap.size + 2) (by simp)) (by omega)).below (al _ _ (w.heap.size + 2) (by simp)) (by omega)).below (al _ _ (w.heap.size + 2) (by simp)) (by omega)
  · have h := Box1.mk' (((w.alloc o).alloc (.cells #[.slice none 0 0] 29)).alloc (.map #[] 0)) (.map (some (w.heap.size + 1 + 1))) 74
    rw [show (((w.alloc o).alloc (.cells #[.slice none 0 0] 29)).alloc (.map #[] 0)).heap.size = w.heap.size + 3 by simp] at h
    exact h.below (al _ _ (w.heap.size + 4) (by simp)) (by omega)
  · have h := Box1.mk' ((((w.alloc o).alloc (.cells #[.slice none 0 0] 29)).alloc (.map #[] 0)).alloc (.cells #[.map (some (w.heap.size + 1 + 1))] 74)) (.func (.func 63) #[] #[.pointer (some ⟨w.heap.size + 1 + 1 + 1, 0, none⟩), .pointer (some ⟨w.heap.size + 1, 0, none⟩), .pointer (some ⟨w.heap.size + 1 + 1 + 1 + 1, 0, none⟩)]) 75
    rw [show ((((w.alloc o).alloc (.cells #[.slice none 0 0] 29)).alloc (.map #[] 0)).alloc (.cells #[.map (some (w.heap.size + 1 + 1))] 74)).heap.size = w.heap.size + 4 by simp] at h
    exact h
  · have h := SetAt.made (P := Try.prog) (K := 3) (E := 4) ((w.alloc o).alloc (.cells #[.slice none 0 0] 29))
    rw [show ((w.alloc o).alloc (.cells #[.slice none 0 0] 29)).heap.size = w.heap.size + 2 by simp] at h
    exact ((h.below (al _ _ (w.heap.size + 3) (by simp)) (by omega)).below (al _ _ (w.heap.size + 3) (by simp)) (by omega)).congr (by simp)
  · exact ((((al _ _ _ (Nat.le_refl _)).trans (al _ _ _ (by simp))).trans (al _ _ _ (by simp; omega))).trans (al _ _ _ (by simp; omega))).trans (al _ _ _ (by simp; omega))
set_option maxRecDepth 100000 in
set_option maxHeartbeats 3200000 in
theorem vars_c (t : Tm) (va : Value) (w : World) (ht : TmAt (fun _ => True) w t va) (hok : t.ok) (hn : t.size ≤ 1000000) :
    Calls Try.prog 20 #[tmV t va] w (RetIs t.vars w) := by
  obtain ⟨ao, cc, rfl, hc1, hc2⟩ := ht.shape
  have HW : Hid (Calls Try.prog 63 #[.agg #[.int .i64 t.kind, .int .i64 t.num, .string t.name, .slice ao t.args.length cc], .pointer (some ⟨w.heap.size + 1 + 1 + 1, 0, none⟩), .pointer (some ⟨w.heap.size + 1, 0, none⟩), .pointer (some ⟨w.heap.size + 1 + 1 + 1 + 1, 0, none⟩)] (((((w.alloc (.cells #[.int .i64 t.kind, .int .i64 t.num, .string t.name, .slice ao t.args.length cc] 24)).alloc (.cells #[.slice none 0 0] 29)).alloc (.map #[] 0)).alloc (.cells #[.map (some (w.heap.size + 1 + 1))] 74)).alloc (.cells #[.func (.func 63) #[] #[.pointer (some ⟨w.heap.size + 1 + 1 + 1, 0, none⟩), .pointer (some ⟨w.heap.size + 1, 0, none⟩), .pointer (some ⟨w.heap.size + 1 + 1 + 1 + 1, 0, none⟩)]] 75)) fun e w' => e = .returned (.tuple #[]) ∧ ∃ v', VB w.heap.size w w' v' t.vars t.vars) :=
    walk_all w.heap.size w rfl t _ _ _ [] (VB.start w _) (ht.mono fun b hb _ => ⟨hb, rfl⟩) hok (by simp; omega)
  have hmm := @run_makeMap Try.prog
  clear ht hok hn
  unfold tmV
  go_enter Try.func20, Try.ntmps20
  go_wp2_with (first | (go_at_call 63; ((with_reducible refine HW.out.mono ?_); rintro e W1 ⟨rfl, v', bb⟩; have B1 := Lib.hid bb; have b1 := bb.obox.c0; clear bb)))
  obtain ⟨a1, c1, rfl, _⟩ := (SlAt.of_own B1.out.own).shape
  go_ret
  exact ⟨_, _, rfl, SlAt.of_own B1.out.own, B1.out.bel⟩
end Go.Proofs.Ytmffobadnmkpbaa
namespace Go.Proofs.Ytmffobadnmkpbaa
open Go.RowKit

theorem box_one {w : World} {a0 a1 a2 a3 : Value} {T : TypeId} {W' : World} (h : Below (w.heap.size + 1) (w.alloc (.cells #[a0, a1, a2, a3] T)) W') :
    W'.cell? ⟨w.heap.size, 0, none⟩ = some a0 ∧ W'.cell? ⟨w.heap.size, 1, none⟩ = some a1 ∧ W'.cell? ⟨w.heap.size, 2, none⟩ = some a2 ∧ W'.cell? ⟨w.heap.size, 3, none⟩ = some a3 := by
  have h0 : BoxL W' w.heap.size [a0, a1, a2, a3] := (BoxL.mk' w #[a0, a1, a2, a3] T).block (h.block _ (by omega))
  exact ⟨(h0.get 0 rfl).1, (h0.get 1 rfl).1, (h0.get 2 rfl).1, (h0.get 3 rfl).1⟩
theorem below_box {w W : World} {o : Obj} (h : Below (w.heap.size + 1) (w.alloc o) W) : Below w.heap.size w W := (below_one w o).trans (h.mono (by omega))
theorem le_box {w W : World} {o : Obj} (h : Below (w.heap.size + 1) (w.alloc o) W) : w.heap.size + 1 ≤ W.heap.size := by have := h.size; simpa using this

def RSizeC (t : Tm) : Prop := ∀ (va : Value) (w : World), TmAt (fun _ => True) w t va → t.size ≤ 1000000000 →
  Calls Try.prog 16 #[tmV t va] w fun e w' => e = .returned (.int .i64 t.size) ∧ Below w.heap.size w w'

set_option maxRecDepth 100000 in
set_option maxHeartbeats 1600000 in
theorem rsize_step (t : Tm) (va : Value) (w : World) (ht : TmAt (fun _ => True) w t va) (hb : t.size ≤ 1000000000) (hC : ∀ u ∈ t.args, RSizeC u) :
    Calls Try.prog 16 #[tmV t va] w fun e w' => e = .returned (.int .i64 t.size) ∧ Below w.heap.size w w' := by
  obtain ⟨ao, cc, rfl, hc1, hc2⟩ := ht.shape
  have HT := Lib.hid (TsAt.of_tm ht)
  have HC := Lib.hid hC
  have HZ := Lib.hid (below_one w)
  have HS := Lib.hid t.size_eq
  have HB := Lib.hid hb
  have hl : t.args.length ≤ 1000000000 := by have h1 := Tm.sizes_len t.args; have h2 := t.size_eq; omega
  unfold tmV
  have H4 := Lib.hid (fun h : t.kind ≠ 4 => Tm.args_kind h)
  clear ht hC hb hc1 hc2
  generalize t.size = z at *
  generalize t.args = l at *
  by_cases hk4 : t.kind = 4
  · rw [hk4]
    clear hk4 H4
    go_enter Try.func16, Try.ntmps16
    go_wp2
    go_loopg [3, 4] l.length (fun n s i wr => ∃ (k : Nat) (S : Int), k ≤ l.length ∧ s = .int .i64 S ∧ i = .int .i64 k ∧ 0 ≤ S ∧ S ≤ 1000000000 ∧ Hid (n = l.length - k) ∧ Hid (S = 1 + Tm.sizes (l.take k)) ∧ Hid (Below (w.heap.size + 1) (w.alloc (.cells #[.int .i64 4, .int .i64 t.num, .string t.name, .slice ao l.length cc] 24)) wr))
    case atStart => exact ⟨0, 1, by omega, rfl, rfl, by omega, by omega, rfl, Lib.hid (by simp [Tm.sizes]), Below.refl _ _⟩
    case round =>
      obtain ⟨k, S, hk, rfl, rfl, hS0, hS1, HN, HE, HW⟩ := hrel
      have HWw := Lib.hid (below_box HW.out)
      obtain ⟨y0, y1, y2, y3⟩ := box_one HW.out
      by_cases hlt : k < l.length
      · obtain ⟨b, off, a1, rfl, -, hcc, hta⟩ := (HT.out.later HWw.out).get k hlt
        obtain ⟨ao1, c1, rfl, _⟩ := hta.shape
        have CX := Lib.hid (HC.out l[k] (List.getElem_mem hlt))
        have HD := Lib.hid (Tm.sizes_take l k hlt)
        have hbb : S + (l[k].size : Int) ≤ 1000000000 := by
          have h1 := HE.out; have h2 := HS.out; have h3 := HD.out; have h4 := Tm.sizes_take_le l (k + 1); have h5 := HB.out; omega
        generalize l[k] = u at *
        obtain ⟨x0, x1, x2, x3⟩ := hcc
        have CC : Hid (Calls Try.prog 16 #[.agg #[.int .i64 u.kind, .int .i64 u.num, .string u.name, .slice ao1 u.args.length c1]] wr fun e w' => e = .returned (.int .i64 u.size) ∧ Below wr.heap.size wr w') := CX.out _ wr hta (by omega)
        clear hta CX
        generalize u.size = y at *
        go_wp2_with (first | (go_at_call 16; ((with_reducible refine CC.out.mono ?_); rintro e W2 ⟨rfl, bb⟩; have BB := Lib.hid bb; clear bb)))
        go_roundg (l.length - (k + 1))
        case measure => have := HN.out; omega
        case rel => exact ⟨k + 1, S + y, by omega, by go_num, by go_num, by omega, by omega, rfl, Lib.hid (by have h1 := HE.out; have h3 := HD.out; omega), HW.out.trans (BB.out.mono (le_box HW.out))⟩
      · obtain rfl : k = l.length := by omega
        have HR : Hid (S = z) := by have h1 := HE.out; have h2 := HS.out; rw [List.take_length] at h1; show _ = _; omega
        go_wp2
        go_ret
        exact ⟨ret_int HR.out, HWw.out⟩
  · have hkb : (t.kind == 4) = false := by simpa using hk4
    have hl0 := H4.out hk4
    subst hl0
    have HR : Hid ((1 : Int) = z) := by have h2 := HS.out; simp only [Tm.sizes] at h2; show _ = _; omega
    clear hk4 H4
    go_enter Try.func16, Try.ntmps16
    go_wp2
    go_loopg [3, 4] 0 (fun n s i wr => s = .int .i64 1 ∧ i = .int .i64 0 ∧ Hid (Below (w.heap.size + 1) (w.alloc (.cells #[.int .i64 t.kind, .int .i64 t.num, .string t.name, .slice ao ([] : List Tm).length cc] 24)) wr))
    case atStart => exact ⟨rfl, rfl, Below.refl _ _⟩
    case round =>
      obtain ⟨rfl, rfl, HW⟩ := hrel
      have HWw := Lib.hid (below_box HW.out)
      obtain ⟨y0, y1, y2, y3⟩ := box_one HW.out
      go_wp2
      go_ret
      exact ⟨ret_int HR.out, HWw.out⟩
theorem rsize_all (t : Tm) : RSizeC t := by
  induction t using Tm.ind with
  | h4 s l ih => exact fun va w ha hb => rsize_step _ va w ha hb ih
  | _ => exact fun va w ha hb => rsize_step _ va w ha hb (by simp [Tm.args])
theorem rsize_c (t : Tm) (va : Value) (w : World) (ht : TmAt (fun _ => True) w t va) (hb : t.size ≤ 1000000000) :
    Calls Try.prog 16 #[tmV t va] w fun e w' => e = .returned (.int .i64 t.size) ∧ Below w.heap.size w w' := rsize_all t va w ht hb
end Go.Proofs.Ytmffobadnmkpbaa
