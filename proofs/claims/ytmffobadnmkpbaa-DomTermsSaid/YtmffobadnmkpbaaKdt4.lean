/-
  The law DomTerms, walked.
-/
import Derived.Test.YtmffobadnmkpbaaKdt2
import Derived.Test.YtmffobadnmkpbaaKdt3
import Derived.Test.YtmffobadnmkpbaaKpars7
import Derived.Test.YtmffobadnmkpbaaKtmd1
namespace Go.Proofs.Ytmffobadnmkpbaa
open Go.RowKit

theorem same14_b (va vb : Value) (a : List Rg) (w : World) (ha : RgAt w va a) (hb : RgAt w vb a) (hl : a.length ≤ 4096) :
    Calls Try.prog 58 #[va, vb] w fun e w' => e = .returned (.bool true) ∧ Below w.heap.size w w' := by
  refine (same_c va vb a a w ha hb hl hl).mono ?_
  rintro e w' ⟨he, q, rfl⟩
  exact ⟨by simpa using he, below_drewN (Below.refl _ _) q⟩
theorem box4cells {W : World} {b : Nat} {x0 x1 x2 x3 : Value} (h : BoxL W b [x0, x1, x2, x3]) : W.cell? ⟨b, 0, none⟩ = some x0 ∧ W.cell? ⟨b, 1, none⟩ = some x1 ∧ W.cell? ⟨b, 2, none⟩ = some x2 ∧ W.cell? ⟨b, 3, none⟩ = some x3 := (box4c h).1
set_option maxRecDepth 100000 in
set_option maxHeartbeats 6400000 in
theorem domTerms_any (va : Value) (a : List Rg) (s : ByteArray) (w : World) (ha : RgAt w va a) :
    Calls Try.prog 13 #[va, .string s] w fun e w' => e = .returned (.bool true) ∧ Below w.heap.size w w' := by
  obtain ⟨ao, cap, rfl, _⟩ := ha.shape
  have CM : Hid (Calls Try.prog 54 #[.slice ao a.length cap, .slice none 0 0] w fun e w' => e = .returned (.bool (decide (100 < a.length) || decide (100 < ([] : List Rg).length))) ∧ w = w') := many_c _ _ a [] w ha RgAt.nil
  by_cases h1 : 100 < a.length
  · rw [show (decide (100 < a.length) || decide (100 < ([] : List Rg).length)) = true by simp [h1]] at CM
    clear ha
    go_enter Try.func13, Try.ntmps13
    go_wp2_with (go_at_call 54; (with_reducible refine CM.out.mono ?_); rintro e w' ⟨rfl, rfl⟩)
    go_ret
    exact ⟨rfl, Below.refl _ _⟩
  rw [show (decide (100 < a.length) || decide (100 < ([] : List Rg).length)) = false by simp; omega] at CM
  by_cases hs : 1024 < s.size
  · clear ha
    go_enter Try.func13, Try.ntmps13
    go_wp2_with (go_at_call 54; (with_reducible refine CM.out.mono ?_); rintro e w' ⟨rfl, rfl⟩)
    go_ret
    exact ⟨rfl, Below.refl _ _⟩
  have HO : Hid (ofD (termD (norm a)) = some (norm a)) := ofD_term (norm_normal a)
  have HZ : Hid ((termD (norm a)).size ≤ 2001) := termD_size (norm_len a)
  have HL : Hid ((norm a).length ≤ 201) := norm_len a
  have CT := Lib.hid (domTerm_c _ a w ha (by omega))
  have CR : Hid (∀ W, Below w.heap.size w W → Calls Try.prog 57 #[.slice ao a.length cap] W (RetTmA (termD (norm a)) W)) := fun W h => refTerm_c _ a W (ha.below h) (by omega)
  have CN : Hid (∀ W, Below w.heap.size w W → Calls Try.prog 59 #[.slice ao a.length cap] W (RetR (norm a) W)) := fun W h => refNorm_c _ a W (ha.below h) (by omega)
  have C1 : Hid (∀ W, Calls Try.prog 60 #[.string s] W (RetOne W)) := fun W => one5_c s (by omega) W
  clear ha
  generalize norm a = L at *
  generalize termD L = t at *
  go_enter Try.func13, Try.ntmps13
  go_upto_region 4 with (first
    | (go_at_call 54; (with_reducible refine CM.out.mono ?_); rintro e w' ⟨rfl, rfl⟩)
    | (go_at_call 55; ((with_reducible refine CT.out.mono ?_); rintro e W1 ⟨ta, tc, rfl, tm, bb⟩; have TM1 := Lib.hid tm; have B1 := Lib.hid bb; clear bb tm)))
  refine dt_gen fun U1 hU1 => ?_
  have BU : Hid (Below W1.heap.size W1 U1) := by rw [hU1]; exact (Below.refl _ _).alloc (Nat.le_refl _) _
  have TB : Hid (BoxL U1 W1.heap.size [.int .i64 t.kind, .int .i64 t.num, .string t.name, .slice ta t.args.length tc]) := by rw [hU1]; exact BoxL.mk' W1 #[.int .i64 t.kind, .int .i64 t.num, .string t.name, .slice ta t.args.length tc] 24
  have TM : Hid (TmAt (fun _ => True) U1 t (.slice ta t.args.length tc)) := TM1.out.later BU.out
  have BW : Hid (Below w.heap.size w U1) := B1.out.trans (BU.out.mono B1.out.size)
  clear hU1 TM1 CM CT BU B1
  generalize W1.heap.size = T at *
  have HTU : Hid (T < U1.heap.size) := TB.out.lt (by simp)
  have CO : Hid (∀ W, Below U1.heap.size U1 W → Calls Try.prog 56 #[.agg #[.int .i64 t.kind, .int .i64 t.num, .string t.name, .slice ta t.args.length tc]] W fun e w' => ∃ ab cb, e = .returned (.tuple #[.slice ab L.length cb, .bool true]) ∧ RgAt w' (.slice ab L.length cb) L ∧ Below W.heap.size W w') := fun W h =>
    (domOf_c t _ W (TM.out.later h) HZ.out).mono fun e w' ⟨ab, Lb, cb, ob, he, hr, g, g', _, hb⟩ => by
      cases ob with
      | false => have := (g' rfl).1; rw [HO.out] at this; cases this
      | true =>
        have := g rfl
        rw [HO.out] at this
        obtain rfl := Option.some.inj this
        exact ⟨ab, cb, he, hr, hb⟩
  have KS : Hid (∀ W, Below U1.heap.size U1 W → W.cell? ⟨T, 0, none⟩ = some (.int .i64 t.kind) ∧ W.cell? ⟨T, 1, none⟩ = some (.int .i64 t.num) ∧ W.cell? ⟨T, 2, none⟩ = some (.string t.name) ∧ W.cell? ⟨T, 3, none⟩ = some (.slice ta t.args.length tc)) := fun W h => box4cells (TB.out.below h HTU.out)
  obtain ⟨x0, x1, x2, x3⟩ := KS.out U1 (Below.refl _ _)
  go_upto_region 5 with (first | (go_at_call 56; ((with_reducible refine (CO.out _ (Below.refl _ _)).mono ?_); rintro e W2 ⟨ab, cb, rfl, rb, bb⟩; have RB := Lib.hid rb; have P2 := Lib.hid bb; clear rb bb)))
  clear x0 x1 x2 x3 CO
  have CX : Hid (∀ W pa qa, Below U1.heap.size U1 W → TmAt (fun _ => True) W t (.slice pa t.args.length qa) → Calls Try.prog 24 #[.agg #[.int .i64 t.kind, .int .i64 t.num, .string t.name, .slice ta t.args.length tc], .agg #[.int .i64 t.kind, .int .i64 t.num, .string t.name, .slice pa t.args.length qa]] W fun e w' => e = .returned (.int .i64 0) ∧ Below W.heap.size W w') := fun W pa qa h h2 => by
    have h3 := refCompareT_c t t _ _ W (TM.out.later h) h2
    rw [cmpT_self] at h3; exact h3
  have CT2 : Hid (∀ W, Below U1.heap.size U1 W → Calls Try.prog 57 #[.slice ao a.length cap] W (RetTmA t W)) := fun W h => CR.out W (BW.out.trans (h.mono BW.out.size))
  have CN2 : Hid (∀ W, Below U1.heap.size U1 W → Calls Try.prog 59 #[.slice ao a.length cap] W (RetR L W)) := fun W h => CN.out W (BW.out.trans (h.mono BW.out.size))
  have CS : Hid (∀ W an cn, Below W2.heap.size W2 W → RgAt W (.slice an L.length cn) L → Calls Try.prog 58 #[.slice ab L.length cb, .slice an L.length cn] W fun e w' => e = .returned (.bool true) ∧ Below W.heap.size W w') := fun W an cn h h2 => same14_b _ _ L W (RB.out.below h) h2 (by have := HL.out; omega)
  have P2s := P2.out.size
  have K2 : Hid (∀ W, Below W2.heap.size W2 W → W.cell? ⟨T, 0, none⟩ = some (.int .i64 t.kind) ∧ W.cell? ⟨T, 1, none⟩ = some (.int .i64 t.num) ∧ W.cell? ⟨T, 2, none⟩ = some (.string t.name) ∧ W.cell? ⟨T, 3, none⟩ = some (.slice ta t.args.length tc)) := fun W h => KS.out W (P2.out.trans (h.mono P2.out.size))
  have s0 := K2.out W2 (Below.refl _ _)
  clear CR CN KS
  go_region_held3 (fun W => W.cell? ⟨T, 0, none⟩ = some (.int .i64 t.kind) ∧ W.cell? ⟨T, 1, none⟩ = some (.int .i64 t.num) ∧ W.cell? ⟨T, 2, none⟩ = some (.string t.name) ∧ W.cell? ⟨T, 3, none⟩ = some (.slice ta t.args.length tc))
    ((first | exact s0 | exact K2.out _ PS.out | exact K2.out _ PN.out | exact K2.out _ PC.out | exact K2.out _ PT.out | (refine K2.out _ ?_; go_grown)))
    (first
      | (go_at_call 57; ((with_reducible refine (CT2.out _ ?_).mono ?_); (· refine P2.out.trans (Below.mono (B := W2.heap.size) ?_ P2s); go_grown); rintro e WT ⟨pa, qa, rfl, tq, bb⟩; have PT : Hid (Below W2.heap.size W2 WT) := Below.trans (B := W2.heap.size) (by go_grown) (bb.mono (by go_size)); have TQ := Lib.hid tq; clear tq))
      | (go_at_call 24; ((with_reducible refine (CX.out _ _ _ (P2.out.trans (PT.out.mono P2s)) TQ.out).mono ?_); rintro e WC ⟨rfl, bb⟩; have PC : Hid (Below W2.heap.size W2 WC) := PT.out.trans (bb.mono PT.out.size)))
      | (go_at_call 59; ((with_reducible refine (CN2.out _ (P2.out.trans (PC.out.mono P2s))).mono ?_); rintro e WN ⟨an, cn, rfl, rn, bb⟩; have PN : Hid (Below W2.heap.size W2 WN) := PC.out.trans (bb.mono PC.out.size); have RN := Lib.hid rn; clear rn))
      | (go_at_call 58; ((with_reducible refine (CS.out _ _ _ PN.out RN.out).mono ?_); rintro e WS ⟨rfl, bb⟩; have PS : Hid (Below W2.heap.size W2 WS) := PN.out.trans (bb.mono PN.out.size))))
  clear s0 K2 CX CT2 CN2 CS
  have P5 : Hid (Below w.heap.size w WS) := (BW.out.trans (P2.out.mono BW.out.size)).trans (PS.out.mono (by have := BW.out.size; omega))
  clear PT PC PN PS TQ RN RB TM TB HTU P2 BW HO HZ
  go_upto_region 8 with (first | (go_at_call 60; ((with_reducible refine (C1.out _).mono ?_); rintro e W6 ⟨u, uv, an, nn, cn, pl, x, rfl, ht, hok, bb⟩; obtain ⟨p0, q0, rfl, _⟩ := ht.shape; have HT := Lib.hid ht; have HOK := Lib.hid hok; have P6 := Lib.hid (P5.out.trans (bb.mono P5.out.size)); clear ht hok bb)))
  refine dt_gen fun U6 hU6 => ?_
  have BU6 : Hid (Below W6.heap.size W6 U6) := by rw [hU6]; exact (Below.refl _ _).alloc (Nat.le_refl _) _
  have XB : Hid (BoxL U6 W6.heap.size [.int .i64 u.kind, .int .i64 u.num, .string u.name, .slice p0 u.args.length q0, .slice an nn cn]) := by rw [hU6]; exact BoxL.mk' W6 #[.int .i64 u.kind, .int .i64 u.num, .string u.name, .slice p0 u.args.length q0, .slice an nn cn] 69
  have P7 : Hid (Below w.heap.size w U6) := P6.out.trans (BU6.out.mono P6.out.size)
  have UT : Hid (TmAt (fun _ => True) U6 u (.slice p0 u.args.length q0)) := HT.out.mono fun b hb _ => ⟨trivial, BU6.out.block b hb⟩
  clear hU6 BU6 P6 HT
  generalize W6.heap.size = T6 at *
  by_cases hx : x = 0
  · subst hx
    obtain ⟨hok, hsz⟩ := HOK.out rfl
    have CO6 : Hid (∀ W, Below U6.heap.size U6 W → Calls Try.prog 56 #[.agg #[.int .i64 u.kind, .int .i64 u.num, .string u.name, .slice p0 u.args.length q0]] W (RetOfD u W)) := fun W h => domOf_c u _ W (UT.out.later h) hsz
    have CR6 : Hid (∀ W, Below U6.heap.size U6 W → Calls Try.prog 61 #[.agg #[.int .i64 u.kind, .int .i64 u.num, .string u.name, .slice p0 u.args.length q0]] W (RetOfD u W)) := fun W h => refOf_all u _ W (UT.out.later h)
    have hT6 := XB.out.lt (by simp)
    obtain ⟨y0, g0⟩ := XB.out.get 0 rfl
    obtain ⟨y1, g1⟩ := XB.out.get 1 rfl
    obtain ⟨y2, g2⟩ := XB.out.get 2 rfl
    obtain ⟨y3, g3⟩ := XB.out.get 3 rfl
    clear hok hsz g0 g1 g2 g3
    go_upto_region 11 with (first | (go_at_call 56; ((with_reducible refine (CO6.out _ (Below.refl _ _)).mono ?_); rintro e W8 ⟨a8, L8, c8, o8, rfl, r8, g8, g8', l8, bb⟩; have R8 := Lib.hid r8; have G8 := Lib.hid g8; have G8' := Lib.hid g8'; have P8 := Lib.hid bb; clear r8 g8 g8' bb)))
    clear y0 y1 y2 y3 CO6
    have XB8 := Lib.hid (XB.out.below P8.out hT6)
    obtain ⟨y0, g0⟩ := XB8.out.get 0 rfl
    obtain ⟨y1, g1⟩ := XB8.out.get 1 rfl
    obtain ⟨y2, g2⟩ := XB8.out.get 2 rfl
    obtain ⟨y3, g3⟩ := XB8.out.get 3 rfl
    clear g0 g1 g2 g3
    go_upto_region 12 with (first | (go_at_call 61; ((with_reducible refine (CR6.out _ P8.out).mono ?_); rintro e W9 ⟨a9, L9, c9, o9, rfl, r9, g9, g9', l9, bb⟩; have R9 := Lib.hid r9; have R89 := Lib.hid (R8.out.below bb); have G9 := Lib.hid g9; have G9' := Lib.hid g9'; have P9 := Lib.hid (P8.out.trans (bb.mono P8.out.size)); clear r9 g9 g9' bb)))
    clear y0 y1 y2 y3 CR6
    have HEQ : o8 = o9 ∧ L8 = L9 := by
      cases o8 with
      | true =>
        have h8 := G8.out rfl
        cases o9 with
        | true => have h9 := G9.out rfl; rw [h8] at h9; exact ⟨rfl, Option.some.inj h9⟩
        | false => have h9 := (G9'.out rfl).1; rw [h8] at h9; cases h9
      | false =>
        have h8 := G8'.out rfl
        cases o9 with
        | true => have h9 := G9.out rfl; rw [h8.1] at h9; cases h9
        | false => have h9 := G9'.out rfl; exact ⟨rfl, h8.2.trans h9.2.symm⟩
    obtain ⟨rfl, rfl⟩ := HEQ
    have CS : Hid (Calls Try.prog 58 #[.slice a8 L8.length c8, .slice a9 L8.length c9] W9 fun e w' => e = .returned (.bool true) ∧ Below W9.heap.size W9 w') := same14_b _ _ L8 W9 R89.out R9.out (by omega)
    have PW : Hid (Below w.heap.size w W9) := P7.out.trans (P9.out.mono P7.out.size)
    clear G8 G8' G9 G9'
    cases o8
    all_goals
      go_wp2_with (first | (go_at_call 58; ((with_reducible refine CS.out.mono ?_); rintro e WS2 ⟨rfl, bb⟩; have PS2 := Lib.hid (PW.out.trans (bb.mono PW.out.size)); clear bb)))
      go_ret
      exact ⟨rfl, PS2.out⟩
  · have hxb : (x != 0) = true := by simpa using hx
    clear hx
    go_wp2
    go_ret
    exact ⟨rfl, P7.out⟩
end Go.Proofs.Ytmffobadnmkpbaa
