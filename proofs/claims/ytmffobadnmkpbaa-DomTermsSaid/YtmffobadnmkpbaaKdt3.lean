/-
  dom.Term, walked.
  coneyref14.Term, walked.
-/
import Derived.Test.YtmffobadnmkpbaaKdt2
import Derived.Test.YtmffobadnmkpbaaKdomrpa2
import Derived.Deep.Cut
namespace Go.Proofs.Ytmffobadnmkpbaa
open Go.RowKit

set_option maxRecDepth 100000 in
set_option maxHeartbeats 6400000 in
theorem domTerm_c (va : Value) (a : List Rg) (w : World) (ha : RgAt w va a) (hl : a.length ≤ 4096) : Calls Try.prog 55 #[va] w (RetTmA (termD (norm a)) w) := by
  have al : ∀ (W : World) (o : Obj) (B : Nat), B ≤ W.heap.size → Below B W (W.alloc o) := fun W o B h => (Below.refl B W).alloc h o
  obtain ⟨V, hV⟩ : ∃ V, V = ((w.alloc (.cells #[.int .i64 0, .int .i64 0, .string ⟨#[]⟩, .slice none 0 0] 24)).alloc (.cells #[.int .i64 0, .int .i64 0, .string ⟨#[]⟩, .slice none 0 0] 24)) := ⟨_, rfl⟩
  have BV : Hid (Below w.heap.size w V) := by rw [hV]; exact (al _ _ _ (Nat.le_refl _)).trans (al _ _ _ (by simp))
  have hsV : V.heap.size = w.heap.size + 2 := by rw [hV]; simp
  have XV : Hid (BoxL V w.heap.size [.int .i64 0, .int .i64 0, .string ⟨#[]⟩, .slice none 0 0]) := by rw [hV]; exact (BoxL.mk' w #[.int .i64 0, .int .i64 0, .string ⟨#[]⟩, .slice none 0 0] 24).below (al _ _ (w.heap.size + 1) (by simp)) (by omega)
  have ZV : Hid (BoxL V (w.heap.size + 1) [.int .i64 0, .int .i64 0, .string ⟨#[]⟩, .slice none 0 0]) := by
    rw [hV]
    have h := BoxL.mk' (w.alloc (.cells #[.int .i64 0, .int .i64 0, .string ⟨#[]⟩, .slice none 0 0] 24)) #[.int .i64 0, .int .i64 0, .string ⟨#[]⟩, .slice none 0 0] 24
    simp only [World.size_alloc] at h
    exact h
  have CN := Lib.hid (norm_n _ a V (ha.below BV.out) hl)
  have HL : (norm a).length ≤ 201 := norm_len a
  have HNo := Lib.hid (norm_normal a)
  generalize norm a = L at *
  have HS := Lib.hid hsV
  clear al ha hsV
  go_enter Try.func55, Try.ntmps55
  go_upto_region 2 with (fail)
  rw [← hV]
  clear hV
  go_upto_region 3 with (first | (go_at_call 90; ((with_reducible refine CN.out.mono ?_); rintro e W1 ⟨a1, c1, rfl, r1, b1, n1⟩; have R1 := Lib.hid r1; have B1 := Lib.hid b1; have N1 := Lib.hid n1; clear r1 b1 n1)))
  have D0 : Hid (Dt w.heap.size V W1 W1 .nil (.slice none 0 0)) := by
    have hs := HS.out
    have hs1 := B1.out.size
    exact ⟨ZV.out.below B1.out (by omega), .leaf rfl, fun _ _ _ => rfl, Nat.le_refl _, by omega, B1.out.mono (by omega)⟩
  have XW1 : Hid (BoxL W1 w.heap.size [.int .i64 0, .int .i64 0, .string ⟨#[]⟩, .slice none 0 0]) := XV.out.below B1.out (by have := HS.out; omega)
  have K0 : Hid (∀ W t tv, Dt w.heap.size V W1 W t tv → BoxL W w.heap.size [.int .i64 0, .int .i64 0, .string ⟨#[]⟩, .slice none 0 0] ∧ Below w.heap.size w W) := fun W t tv h => ⟨XV.out.below h.low (by omega), BV.out.trans (h.low.mono (by omega))⟩
  go_wp2
  go_loopg [10] L.length (fun f i wr => ∃ (k : Nat) (gv : Value), k ≤ L.length ∧ i = .int .i64 k ∧ Hid (f = L.length - k) ∧ Hid (Dt w.heap.size V W1 wr (outT L k) gv))
  case atStart => exact ⟨0, _, by omega, rfl, rfl, D0⟩
  case round =>
    obtain ⟨k, gv, hk, rfl, HN, HD⟩ := hrel
    obtain ⟨ga, gc, rfl, _⟩ := HD.out.outAt.shape
    by_cases hlt : k < L.length
    · obtain ⟨b1, off, c1', hv, hb1, y0, y1⟩ := rg_cells R1.out k hlt
      simp only [Value.slice.injEq, true_and] at hv
      obtain ⟨rfl, rfl⟩ := hv
      have hbn := N1.out b1 rfl
      have HST := Lib.hid (outT_step L k hlt)
      have HBD := Lib.hid (HNo.out.bounds _ (List.getElem_mem hlt))
      have hsz := HD.out.sz
      have hlo := HD.out.lo
      have hkw : wr.heap[b1]? = W1.heap[b1]? := HD.out.agr b1 hb1 (by have := HS.out; omega)
      have x0 : wr.cell? ⟨b1, off + k * 2, none⟩ = some (.int .i64 L[k].1) := (World.cell?_of_block (a := ⟨b1, off + k * 2, none⟩) hkw).trans y0
      have x1 : wr.cell? ⟨b1, off + k * 2 + 1, none⟩ = some (.int .i64 L[k].2) := (World.cell?_of_block (a := ⟨b1, off + k * 2 + 1, none⟩) hkw).trans y1
      have HRG : Hid (rgT L[k] = if L[k].1 < L[k].2 then pairT dotS (limT L[k].1) (limT L[k].2) else .int L[k].1) := rfl
      generalize rgT L[k] = tr at *
      generalize L[k].1 = lo at *
      generalize L[k].2 = hi at *
      clear y0 y1 hkw
      generalize outT L k = G at *
      obtain ⟨G', hG'⟩ : ∃ G', G' = outT L (k + 1) := ⟨_, rfl⟩
      rw [← hG'] at HST
      have HGp := Lib.hid hG'
      clear hG'
      have CI : Hid (∀ W, Calls Try.prog 91 #[.int .i64 lo] W fun e w' => e = .returned (.agg #[.int .i64 2, .int .i64 lo, .string ByteArray.empty, .slice none 0 0]) ∧ Below W.heap.size W w') := fun W => dominteger_c lo W
      go_upto_region 5 with (fail)
      refine dt_gen fun U1 hU1 => ?_
      have RB1 : Hid (BoxL U1 wr.heap.size [.int .i64 lo, .int .i64 hi]) := by rw [hU1]; exact BoxL.mk' wr #[.int .i64 lo, .int .i64 hi] 107
      have BU1 : Hid (Below wr.heap.size wr U1) := by rw [hU1]; exact (Below.refl _ _).alloc (Nat.le_refl _) _
      have HR1 : Hid (wr.heap.size < U1.heap.size) := RB1.out.lt (by simp)
      clear hU1 x0 x1
      obtain ⟨R, hR⟩ : ∃ R, R = wr.heap.size := ⟨_, rfl⟩
      rw [← hR]
      rw [← hR] at RB1 HR1
      have HRe := Lib.hid hR
      clear hR
      obtain ⟨r0, r1⟩ := rcs RB1.out
      have DU := Lib.hid (HD.out.below BU1.out)
      go_upto_region 6 with (first | (go_at_call 91; ((with_reducible refine (CI.out _).mono ?_); rintro e W2 ⟨rfl, bb⟩; have RB2 := Lib.hid (RB1.out.below bb HR1.out); have DU2 := Lib.hid (DU.out.below bb); clear bb)))
      clear r0 r1
      refine dt_gen fun U2 hU2 => ?_
      have MD : Hid (Md w.heap.size V W1 U2 G (.slice ga G.args.length gc) W2.heap.size (.int lo) (.slice none 0 0)) := by rw [hU2]; exact Md.start (t := .int lo) DU2.out rfl
      have RB3 : Hid (BoxL U2 R [.int .i64 lo, .int .i64 hi]) := by rw [hU2]; exact RB2.out.below ((Below.refl _ _).alloc (Nat.le_refl _) _) (RB2.out.lt (by simp))
      have HRT : Hid (R ≠ W2.heap.size) := by have := RB2.out.lt (by simp); show _ ≠ _; omega
      clear hU2 RB1 RB2 DU DU2 BU1 HR1 HRe HD CI
      generalize W2.heap.size = T at *
      obtain ⟨r0, r1⟩ := rcs RB3.out
      have RLT : Hid (R < U2.heap.size) := RB3.out.lt (by simp)
      by_cases hlh : lo < hi
      · have HTR : Hid (tr = pairT dotS (limT lo) (limT hi)) := by have h := HRG.out; rw [if_pos hlh] at h; exact h
        have hu1 := limT_args lo
        have hu2 := limT_args hi
        have CL1 : Hid (∀ W, Calls Try.prog 93 #[.int .i64 lo] W fun e w' => e = .returned (.agg #[.int .i64 (limT lo).kind, .int .i64 (limT lo).num, .string (limT lo).name, .slice none 0 0]) ∧ Below W.heap.size W w') := fun W => domlimit_c lo W
        have CL2 : Hid (∀ W, Calls Try.prog 93 #[.int .i64 hi] W fun e w' => e = .returned (.agg #[.int .i64 (limT hi).kind, .int .i64 (limT hi).num, .string (limT hi).name, .slice none 0 0]) ∧ Below W.heap.size W w') := fun W => domlimit_c hi W
        have CP : Hid (∀ W, Below U2.heap.size U2 W → Calls Try.prog 92 #[.string ⟨#[46, 46]⟩, .agg #[.int .i64 (limT lo).kind, .int .i64 (limT lo).num, .string (limT lo).name, .slice none 0 0], .agg #[.int .i64 (limT hi).kind, .int .i64 (limT hi).num, .string (limT hi).name, .slice none 0 0]] W fun e w' => ∃ pa qa, e = .returned (.agg #[.int .i64 4, .int .i64 0, .string ⟨#[46, 46]⟩, .slice pa 2 qa]) ∧ TmAt (fun b => w.heap.size + 2 ≤ b ∧ b ≠ T) w' (pairT dotS (limT lo) (limT hi)) (.slice pa 2 qa) ∧ Below U2.heap.size U2 w') := fun W h =>
          (dompair_c (p := fun b => w.heap.size + 2 ≤ b ∧ b ≠ T) dotS (limT lo) (limT hi) (.slice none 0 0) (.slice none 0 0) W (.leaf hu1) (.leaf hu2)).mono fun e w' ⟨pa, qa, h1, h2, h3⟩ => ⟨pa, qa, h1, h2.mono fun b _ hp => ⟨by
            rcases hp with hp | hp
            · exact hp
            · have h4 := h.size; have h5 := MD.out.lt; have h6 := MD.out.far; have h7 := MD.out.dt.lo; omega, rfl⟩, h.trans (h3.mono h.size)⟩
        clear hu1 hu2
        generalize limT lo = u1 at *
        generalize limT hi = u2 at *
        have hTU := MD.out.lt
        go_upto_region 7 with (fail)
        go_region_held3 (fun W => W.cell? ⟨R, 0, none⟩ = some (.int .i64 lo) ∧ W.cell? ⟨R, 1, none⟩ = some (.int .i64 hi))
          ((first | exact rcs (RB3.out.below PC.out RLT.out) | exact rcs_set (RB3.out.below PC.out RLT.out) HRT.out | exact rcs (RB3.out.below PB.out RLT.out) | exact rcs (RB3.out.below PA.out RLT.out) | exact ⟨r0, r1⟩ | (refine rcs (RB3.out.below ?_ RLT.out); go_grown)))
          (first
            | (go_at_call 93; ((with_reducible refine (CL1.out _).mono ?_); rintro e WA ⟨rfl, bb⟩; have PA : Hid (Below U2.heap.size U2 WA) := Below.trans (B := U2.heap.size) (by first | exact PB.out | exact Below.refl _ _ | exact (Below.refl _ _).drew | go_grown) (bb.mono (by first | exact PB.out.size | exact Nat.le_refl _ | go_size))))
            | (go_at_call 93; ((with_reducible refine (CL2.out _).mono ?_); rintro e WB ⟨rfl, bb⟩; have PB : Hid (Below U2.heap.size U2 WB) := Below.trans (B := U2.heap.size) (by first | exact PA.out | exact Below.refl _ _ | exact (Below.refl _ _).drew | go_grown) (bb.mono (by first | exact PA.out.size | exact Nat.le_refl _ | go_size))))
            | (go_at_call 92; ((with_reducible refine (CP.out _ ?_).mono ?_); (· first | exact PB.out | exact PA.out); rintro e WC ⟨pa, qa, rfl, tq, bb⟩; have PC : Hid (Below U2.heap.size U2 WC) := bb; have TQ := Lib.hid tq; have MC := Lib.hid (MD.out.below bb); have hTC := MC.out.lt; clear bb tq; obtain ⟨⟨t0, t1, t2, t3⟩, f0, f1, f2, f3⟩ := box4c MC.out.tb)))
        refine dt_genX fun U4 hU4 => ?_
        have M4 : Hid (Md w.heap.size V W1 U4 G (.slice ga G.args.length gc) T (pairT dotS u1 u2) (.slice pa 2 qa)) := MC.out.put (t' := pairT dotS u1 u2) TQ.out hU4
        clear hU4 MC PC PA PB TQ t0 t1 t2 t3 f0 f1 f2 f3 CL1 CL2 CP RB3 MD
        have hT1 : w.heap.size + 1 < T := by have h1 := M4.out.far; have h2 := M4.out.dt.lo; omega
        have hTU := M4.out.lt
        obtain ⟨⟨t0, t1, t2, t3⟩, f0, f1, f2, f3⟩ := box4c M4.out.tb
        obtain ⟨⟨o0, o1, o2, o3⟩, e0, e1, e2, e3⟩ := box4c M4.out.dt.out
        by_cases hk0 : k = 0
        · have HGe : Hid (G' = pairT dotS u1 u2) := by have h := HST.out; rw [if_pos hk0, HTR.out] at h; exact h
          have hkz : ((k : Int) > 0) = False := by simp; omega
          subst hk0
          have HG0 : Hid (∀ X, X = ((((U4.setCell ⟨w.heap.size + 1, 0, none⟩ (.int .i64 (pairT dotS u1 u2).kind)).setCell ⟨w.heap.size + 1, 1, none⟩ (.int .i64 (pairT dotS u1 u2).num)).setCell ⟨w.heap.size + 1, 2, none⟩ (.string (pairT dotS u1 u2).name)).setCell ⟨w.heap.size + 1, 3, none⟩ (Value.slice pa 2 qa)) → Dt w.heap.size V W1 X (outT L (0 + 1)) (Value.slice pa 2 qa)) := fun X hX => by rw [← HGp.out, HGe.out]; exact M4.out.take hX
          go_wp2
          go_roundg (L.length - 1)
          case measure => have := HN.out; omega
          case rel => exact ⟨1, _, by omega, by go_num, rfl, HG0.out _ rfl⟩
        · have HGe : Hid (G' = pairT orS G (pairT dotS u1 u2)) := by have h := HST.out; rw [if_neg hk0, HTR.out] at h; exact h
          have CQ : Hid (∀ W, Below U4.heap.size U4 W → Calls Try.prog 92 #[.string ⟨#[92, 47]⟩, .agg #[.int .i64 G.kind, .int .i64 G.num, .string G.name, .slice ga G.args.length gc], .agg #[.int .i64 (pairT dotS u1 u2).kind, .int .i64 (pairT dotS u1 u2).num, .string (pairT dotS u1 u2).name, Value.slice pa 2 qa]] W fun e w' => ∃ pb qb, e = .returned (.agg #[.int .i64 4, .int .i64 0, .string ⟨#[92, 47]⟩, .slice pb 2 qb]) ∧ Md w.heap.size V W1 w' G (.slice ga G.args.length gc) T (pairT dotS u1 u2) (Value.slice pa 2 qa) ∧ TmAt (fun b => w.heap.size + 2 ≤ b ∧ b ≠ T) w' (pairT orS G (pairT dotS u1 u2)) (.slice pb 2 qb)) := fun W h =>
            (dompair_c (p := fun b => w.heap.size + 2 ≤ b ∧ b ≠ T) orS G (pairT dotS u1 u2) _ _ W ((M4.out.below h).outT) ((M4.out.below h).tAt)).mono fun e w' ⟨pb, qb, h1, h2, h3⟩ => ⟨pb, qb, h1, (M4.out.below h).below h3, h2.mono fun b _ hp => ⟨by
              rcases hp with hp | hp
              · exact hp
              · have := h.size; omega, rfl⟩⟩
          have hkp : (0 : Int) < k := by omega
          clear hk0
          go_wp2_with (first | (go_at_call 92; ((with_reducible refine (CQ.out _ (Below.refl _ _)).mono ?_); rintro e W5 ⟨pb, qb, rfl, m5, tq⟩; have M5 := Lib.hid m5; have TQ := Lib.hid tq; have hTW := M5.out.lt; clear m5 tq t0 t1 t2 t3 f0 f1 f2 f3 o0 o1 o2 o3 e0 e1 e2 e3; obtain ⟨⟨t0, t1, t2, t3⟩, f0, f1, f2, f3⟩ := box4c M5.out.tb; obtain ⟨⟨o0, o1, o2, o3⟩, e0, e1, e2, e3⟩ := box4c M5.out.dt.out)))
          have HG1 : Hid (∀ X Y, X = ((((W5.setCell ⟨T, 0, none⟩ (.int .i64 4)).setCell ⟨T, 1, none⟩ (.int .i64 0)).setCell ⟨T, 2, none⟩ (.string ⟨#[92, 47]⟩)).setCell ⟨T, 3, none⟩ (.slice pb 2 qb)) → Y = ((((X.setCell ⟨w.heap.size + 1, 0, none⟩ (.int .i64 4)).setCell ⟨w.heap.size + 1, 1, none⟩ (.int .i64 0)).setCell ⟨w.heap.size + 1, 2, none⟩ (.string ⟨#[92, 47]⟩)).setCell ⟨w.heap.size + 1, 3, none⟩ (.slice pb 2 qb)) → Dt w.heap.size V W1 Y (outT L (k + 1)) (.slice pb 2 qb)) := fun X Y hX hY => by rw [← HGp.out, HGe.out]; exact (M5.out.put (t' := pairT orS G (pairT dotS u1 u2)) TQ.out hX).take hY
          go_roundg (L.length - (k + 1))
          case measure => have := HN.out; omega
          case rel => exact ⟨k + 1, _, by omega, by go_num, rfl, HG1.out _ _ rfl rfl⟩
      · have HTR : Hid (tr = .int lo) := by have h := HRG.out; rw [if_neg hlh] at h; exact h
        obtain ⟨U4, hU4⟩ : ∃ U4, U4 = U2 := ⟨_, rfl⟩
        have M4 : Hid (Md w.heap.size V W1 U4 G (.slice ga G.args.length gc) T (.int lo) (.slice none 0 0)) := by rw [hU4]; exact MD.out
        have q0 : U4.cell? ⟨R, 0, none⟩ = some (.int .i64 lo) := by rw [hU4]; exact r0
        have q1 : U4.cell? ⟨R, 1, none⟩ = some (.int .i64 hi) := by rw [hU4]; exact r1
        rw [← hU4]
        clear hU4 RB3 MD r0 r1
        have hT1 : w.heap.size + 1 < T := by have h1 := M4.out.far; have h2 := M4.out.dt.lo; omega
        have hTU := M4.out.lt
        obtain ⟨⟨t0, t1, t2, t3⟩, f0, f1, f2, f3⟩ := box4c M4.out.tb
        obtain ⟨⟨o0, o1, o2, o3⟩, e0, e1, e2, e3⟩ := box4c M4.out.dt.out
        by_cases hk0 : k = 0
        · have HGe : Hid (G' = Tm.int lo) := by have h := HST.out; rw [if_pos hk0, HTR.out] at h; exact h
          have hkz : ((k : Int) > 0) = False := by simp; omega
          subst hk0
          have HG0 : Hid (∀ X, X = ((((U4.setCell ⟨w.heap.size + 1, 0, none⟩ (.int .i64 (Tm.int lo).kind)).setCell ⟨w.heap.size + 1, 1, none⟩ (.int .i64 (Tm.int lo).num)).setCell ⟨w.heap.size + 1, 2, none⟩ (.string (Tm.int lo).name)).setCell ⟨w.heap.size + 1, 3, none⟩ (Value.slice none 0 0)) → Dt w.heap.size V W1 X (outT L (0 + 1)) (Value.slice none 0 0)) := fun X hX => by rw [← HGp.out, HGe.out]; exact M4.out.take hX
          go_wp2
          go_roundg (L.length - 1)
          case measure => have := HN.out; omega
          case rel => exact ⟨1, _, by omega, by go_num, rfl, HG0.out _ rfl⟩
        · have HGe : Hid (G' = pairT orS G (Tm.int lo)) := by have h := HST.out; rw [if_neg hk0, HTR.out] at h; exact h
          have CQ : Hid (∀ W, Below U4.heap.size U4 W → Calls Try.prog 92 #[.string ⟨#[92, 47]⟩, .agg #[.int .i64 G.kind, .int .i64 G.num, .string G.name, .slice ga G.args.length gc], .agg #[.int .i64 (Tm.int lo).kind, .int .i64 (Tm.int lo).num, .string (Tm.int lo).name, Value.slice none 0 0]] W fun e w' => ∃ pb qb, e = .returned (.agg #[.int .i64 4, .int .i64 0, .string ⟨#[92, 47]⟩, .slice pb 2 qb]) ∧ Md w.heap.size V W1 w' G (.slice ga G.args.length gc) T (Tm.int lo) (Value.slice none 0 0) ∧ TmAt (fun b => w.heap.size + 2 ≤ b ∧ b ≠ T) w' (pairT orS G (Tm.int lo)) (.slice pb 2 qb)) := fun W h =>
            (dompair_c (p := fun b => w.heap.size + 2 ≤ b ∧ b ≠ T) orS G (Tm.int lo) _ _ W ((M4.out.below h).outT) ((M4.out.below h).tAt)).mono fun e w' ⟨pb, qb, h1, h2, h3⟩ => ⟨pb, qb, h1, (M4.out.below h).below h3, h2.mono fun b _ hp => ⟨by
              rcases hp with hp | hp
              · exact hp
              · have := h.size; omega, rfl⟩⟩
          have hkp : (0 : Int) < k := by omega
          clear hk0
          go_wp2_with (first | (go_at_call 92; ((with_reducible refine (CQ.out _ (Below.refl _ _)).mono ?_); rintro e W5 ⟨pb, qb, rfl, m5, tq⟩; have M5 := Lib.hid m5; have TQ := Lib.hid tq; have hTW := M5.out.lt; clear m5 tq t0 t1 t2 t3 f0 f1 f2 f3 o0 o1 o2 o3 e0 e1 e2 e3; obtain ⟨⟨t0, t1, t2, t3⟩, f0, f1, f2, f3⟩ := box4c M5.out.tb; obtain ⟨⟨o0, o1, o2, o3⟩, e0, e1, e2, e3⟩ := box4c M5.out.dt.out)))
          have HG1 : Hid (∀ X Y, X = ((((W5.setCell ⟨T, 0, none⟩ (.int .i64 4)).setCell ⟨T, 1, none⟩ (.int .i64 0)).setCell ⟨T, 2, none⟩ (.string ⟨#[92, 47]⟩)).setCell ⟨T, 3, none⟩ (.slice pb 2 qb)) → Y = ((((X.setCell ⟨w.heap.size + 1, 0, none⟩ (.int .i64 4)).setCell ⟨w.heap.size + 1, 1, none⟩ (.int .i64 0)).setCell ⟨w.heap.size + 1, 2, none⟩ (.string ⟨#[92, 47]⟩)).setCell ⟨w.heap.size + 1, 3, none⟩ (.slice pb 2 qb)) → Dt w.heap.size V W1 Y (outT L (k + 1)) (.slice pb 2 qb)) := fun X Y hX hY => by rw [← HGp.out, HGe.out]; exact (M5.out.put (t' := pairT orS G (Tm.int lo)) TQ.out hX).take hY
          go_roundg (L.length - (k + 1))
          case measure => have := HN.out; omega
          case rel => exact ⟨k + 1, _, by omega, by go_num, rfl, HG1.out _ _ rfl rfl⟩
    · obtain rfl : k = L.length := by omega
      obtain ⟨hx, hbw⟩ := K0.out _ _ _ HD.out
      have HBW := Lib.hid hbw
      have hsz := HD.out.sz
      have hlo := HD.out.lo
      obtain ⟨⟨o0, o1, o2, o3⟩, -⟩ := box4c HD.out.out
      obtain ⟨⟨z0, z1, z2, z3⟩, f0, f1, f2, f3⟩ := box4c hx
      by_cases h0 : L.length = 0
      · have HT : Hid (termD L = emptyT) := by show _ = _; unfold termD; rw [if_pos h0]
        have hG : outT L L.length = .nil := by rw [h0]; rfl
        rw [hG] at o0
        have CI1 : Hid (∀ W, Calls Try.prog 91 #[.int .i64 1] W fun e w' => e = .returned (.agg #[.int .i64 2, .int .i64 1, .string ByteArray.empty, .slice none 0 0]) ∧ Below W.heap.size W w') := fun W => dominteger_c 1 W
        have CI0 : Hid (∀ W, Calls Try.prog 91 #[.int .i64 0] W fun e w' => e = .returned (.agg #[.int .i64 2, .int .i64 0, .string ByteArray.empty, .slice none 0 0]) ∧ Below W.heap.size W w') := fun W => dominteger_c 0 W
        have CP : Hid (∀ W, Calls Try.prog 92 #[.string ⟨#[46, 46]⟩, .agg #[.int .i64 2, .int .i64 1, .string ByteArray.empty, .slice none 0 0], .agg #[.int .i64 2, .int .i64 0, .string ByteArray.empty, .slice none 0 0]] W fun e w' => ∃ pa qa, e = .returned (.agg #[.int .i64 4, .int .i64 0, .string ⟨#[46, 46]⟩, .slice pa 2 qa]) ∧ TmAt (fun b => W.heap.size ≤ b) w' emptyT (.slice pa 2 qa) ∧ Below W.heap.size W w') := fun W =>
          (dompair_c (p := fun _ => False) dotS (.int 1) (.int 0) (.slice none 0 0) (.slice none 0 0) W (.leaf rfl) (.leaf rfl)).mono fun e w' ⟨pa, qa, h1, h2, h3⟩ => ⟨pa, qa, h1, h2.mono fun b _ hp => ⟨hp.elim (fun h => h.elim) id, rfl⟩, h3⟩
        have HX := Lib.hid hx
        have hhl : w.heap.size < wr.heap.size := by omega
        clear hG hx hbw h0 HD
        go_wp2_with (first
          | (go_at_call 91; ((with_reducible refine (CI1.out _).mono ?_); rintro e WA ⟨rfl, bb⟩; have PA := Lib.hid bb; clear bb))
          | (go_at_call 91; ((with_reducible refine (CI0.out _).mono ?_); rintro e WB ⟨rfl, bb⟩; have PB := Lib.hid (PA.out.trans (bb.mono PA.out.size)); clear bb))
          | (go_at_call 92; ((with_reducible refine (CP.out _).mono ?_); rintro e WC ⟨pa, qa, rfl, tq, bb⟩; have PC := Lib.hid (PB.out.trans (bb.mono PB.out.size)); have TQ : Hid (TmAt (fun b => b ≠ w.heap.size) WC emptyT (.slice pa 2 qa)) := (tq.mono fun b _ hp => ⟨Nat.ne_of_gt (Nat.lt_of_lt_of_le hhl (Nat.le_trans PB.out.size hp)), rfl⟩); clear bb tq z0 z1 z2 z3 f0 f1 f2 f3; have HXC := Lib.hid (HX.out.below PC.out hhl); obtain ⟨⟨z0, z1, z2, z3⟩, f0, f1, f2, f3⟩ := box4c HXC.out)))
        refine post_gen7 fun W9 hW9 => ?_
        have hr := res4l (w := w) (Nat.le_refl _) HXC.out (HBW.out.trans (PC.out.mono HBW.out.size)) hW9
        clear z0 z1 z2 z3 f0 f1 f2 f3 hW9
        obtain ⟨⟨z0, z1, z2, z3⟩, -⟩ := box4c hr.1
        refine bodyPost_ret (v := .agg #[.int .i64 4, .int .i64 0, .string ⟨#[46, 46]⟩, .slice pa 2 qa]) (by simp [results, Try.results55, go_sem, z0, z1, z2, z3]; try rfl) rfl ?_
        rw [HT.out]
        exact ⟨pa, qa, rfl, TQ.out.mono fun b _ hp => ⟨trivial, hr.2.2 b hp⟩, hr.2.1⟩
      · have HT : Hid (termD L = outT L L.length) := by show _ = _; unfold termD; rw [if_neg h0]
        have hG : (outT L L.length).kind ≠ 0 := by
          obtain ⟨m, hm⟩ : ∃ m, L.length = m + 1 := ⟨L.length - 1, by omega⟩
          rw [hm]; exact outT_kind L m
        have hGb : ((outT L L.length).kind == 0) = false := by simpa using hG
        have HX := Lib.hid hx
        have HAT := Lib.hid HD.out.outAt
        have hhl : w.heap.size < wr.heap.size := by omega
        clear hG hx hbw HD
        generalize outT L L.length = G at *
        go_wp2
        refine post_gen7 fun W9 hW9 => ?_
        have hr := res4l (w := w) (Nat.le_refl _) HX.out HBW.out hW9
        clear z0 z1 z2 z3 f0 f1 f2 f3 hW9
        obtain ⟨⟨z0, z1, z2, z3⟩, -⟩ := box4c hr.1
        refine bodyPost_ret (v := .agg #[.int .i64 G.kind, .int .i64 G.num, .string G.name, .slice ga G.args.length gc]) (by simp [results, Try.results55, go_sem, z0, z1, z2, z3]; try rfl) rfl ?_
        rw [HT.out]
        exact ⟨ga, gc, rfl, HAT.out.mono fun b _ hp => ⟨trivial, hr.2.2 b (by omega)⟩, hr.2.1⟩
end Go.Proofs.Ytmffobadnmkpbaa
namespace Go.Proofs.Ytmffobadnmkpbaa
open Go.RowKit

/-- a box T laid behind wr with a term in it -/
structure Good (wr X : World) (T : Nat) (P : Tm) (pv : Value) : Prop where
  lo : wr.heap.size ≤ T
  box : BoxL X T [.int .i64 P.kind, .int .i64 P.num, .string P.name, pv]
  at' : TmAt (fun b => b ≠ T ∧ wr.heap.size ≤ b) X P pv
  bel : Below wr.heap.size wr X
theorem Good.drew {wr X : World} {T : Nat} {P : Tm} {pv : Value} (h : Good wr X T P pv) : Good wr X.drew T P pv := ⟨h.lo, h.box, h.at'.mono (w := X) (w' := X.drew) (fun _ _ hp => ⟨hp, rfl⟩), h.bel.drew⟩
theorem good_set {wr WC X : World} {T : Nat} {P : Tm} {pv x0 x1 x2 x3 : Value} (hb : Below wr.heap.size wr WC) (hT : wr.heap.size ≤ T) (hx : BoxL WC T [x0, x1, x2, x3]) (ht : TmAt (fun b => T < b) WC P pv)
    (hX : X = ((((WC.setCell ⟨T, 0, none⟩ (.int .i64 P.kind)).setCell ⟨T, 1, none⟩ (.int .i64 P.num)).setCell ⟨T, 2, none⟩ (.string P.name)).setCell ⟨T, 3, none⟩ pv)) : Good wr X T P pv := by
  subst hX
  exact ⟨hT, box4set hx _ _ _ _, ht.mono fun b _ hp => ⟨⟨by omega, by omega⟩, heap_set4 _ _ _ _ _ _ (by omega)⟩, below4 hb hT _ _ _ _⟩
theorem good_new {wr WC : World} {P : Tm} {pv : Value} {e : TypeId} (hb : Below wr.heap.size wr WC) (ht : TmAt (fun b => wr.heap.size ≤ b) WC P pv) : Good wr (WC.alloc (.cells #[.int .i64 P.kind, .int .i64 P.num, .string P.name, pv] e)) WC.heap.size P pv :=
  ⟨hb.size, BoxL.mk' WC #[.int .i64 P.kind, .int .i64 P.num, .string P.name, pv] e, ht.mono fun b hl hp => ⟨⟨by omega, hp⟩, Below.heap_alloc _ _ b hl⟩, hb.alloc hb.size _⟩
theorem Good.md {h : Nat} {V W1 wr X : World} {G P : Tm} {gv pv : Value} {T : Nat} (H : Good wr X T P pv) (D : Dt h V W1 wr G gv) : Md h V W1 X G gv T P pv := by
  have h1 := D.sz
  have h2 := D.lo
  have h3 := H.lo
  exact ⟨D.below H.bel, D.outAt.mono fun b hb hp => ⟨⟨hp, by omega⟩, H.bel.block b hb⟩, H.box, H.at'.mono fun b _ hp => ⟨⟨by omega, hp.1⟩, rfl⟩, by omega⟩
theorem boxLater {w W1 : World} {cs : Array Value} {T : TypeId} (bb : Below (w.alloc (.cells cs T)).heap.size (w.alloc (.cells cs T)) W1) : BoxL W1 w.heap.size cs.toList := (BoxL.mk' w cs T).below bb (by simp)
theorem boxLaterD {w W1 : World} {cs : Array Value} {T : TypeId} (bb : Below (w.alloc (.cells cs T)).drew.heap.size (w.alloc (.cells cs T)).drew W1) : BoxL W1 w.heap.size cs.toList := (BoxL.mk' w cs T).below (Below.trans ((Below.refl _ _).drew) bb) (by simp)
theorem Dt.put {h : Nat} {V W1 W X : World} {G t' : Tm} {gv tv' : Value} (H : Dt h V W1 W G gv) (ht : TmAt (fun b => h + 2 ≤ b) W t' tv')
    (hX : X = ((((W.setCell ⟨h + 1, 0, none⟩ (.int .i64 t'.kind)).setCell ⟨h + 1, 1, none⟩ (.int .i64 t'.num)).setCell ⟨h + 1, 2, none⟩ (.string t'.name)).setCell ⟨h + 1, 3, none⟩ tv')) : Dt h V W1 X t' tv' := by
  have hf : ∀ b, b ≠ h + 1 → X.heap[b]? = W.heap[b]? := fun b hb => by rw [hX]; exact heap_set4 _ _ _ _ _ _ hb
  have hs : X.heap.size = W.heap.size := by rw [hX]; simp
  have hl : Below (h + 1) W X := by rw [hX]; exact below4 (Below.refl _ _) (Nat.le_refl _) _ _ _ _
  refine ⟨?_, ht.mono fun b _ hp => ⟨hp, hf b (by omega)⟩, fun b hb hne => (hf b hne).trans (H.agr b hb hne), by rw [hs]; exact H.sz, H.lo, H.low.trans hl⟩
  rw [hX]; exact box4set H.out _ _ _ _
theorem rcells {W wr : World} {b o : Nat} {x y : Value} (h0 : wr.cell? ⟨b, o, none⟩ = some x) (h1 : wr.cell? ⟨b, o + 1, none⟩ = some y) (hb : b < wr.heap.size) (h : Below wr.heap.size wr W) : W.cell? ⟨b, o, none⟩ = some x ∧ W.cell? ⟨b, o + 1, none⟩ = some y :=
  ⟨(h.cell (p := ⟨b, o, none⟩) hb).trans h0, (h.cell (p := ⟨b, o + 1, none⟩) hb).trans h1⟩

set_option maxRecDepth 100000 in
set_option maxHeartbeats 6400000 in
theorem refTerm_c (va : Value) (a : List Rg) (w : World) (ha : RgAt w va a) (hl : a.length ≤ 4096) : Calls Try.prog 57 #[va] w (RetTmA (termD (norm a)) w) := by
  obtain ⟨V, hV⟩ : ∃ V, V = w.alloc (.cells #[.int .i64 0, .int .i64 0, .string ⟨#[]⟩, .slice none 0 0] 24) := ⟨_, rfl⟩
  have BV : Hid (Below w.heap.size w V) := by rw [hV]; exact (Below.refl _ _).alloc (Nat.le_refl _) _
  have hsV : V.heap.size = w.heap.size + 1 := by rw [hV]; simp
  have XV : Hid (BoxL V w.heap.size [.int .i64 0, .int .i64 0, .string ⟨#[]⟩, .slice none 0 0]) := by rw [hV]; exact BoxL.mk' w #[.int .i64 0, .int .i64 0, .string ⟨#[]⟩, .slice none 0 0] 24
  have CN := Lib.hid (refNorm_n _ a V (ha.below BV.out) hl)
  have HL : (norm a).length ≤ 201 := norm_len a
  have HNo := Lib.hid (norm_normal a)
  generalize norm a = L at *
  have HS := Lib.hid hsV
  clear ha hsV
  go_enter Try.func57, Try.ntmps57
  go_upto_region 1 with (fail)
  rw [← hV]
  clear hV
  go_upto_region 2 with (first | (go_at_call 59; ((with_reducible refine CN.out.mono ?_); rintro e W1 ⟨a1, c1, rfl, r1, b1, n1⟩; have R1 := Lib.hid r1; have B1 := Lib.hid b1; clear r1 b1 n1)))
  have X1 : Hid (BoxL W1 w.heap.size [.int .i64 0, .int .i64 0, .string ⟨#[]⟩, .slice none 0 0]) := XV.out.below B1.out (by have := HS.out; omega)
  have P1 : Hid (Below w.heap.size w W1) := BV.out.trans (B1.out.mono BV.out.size)
  have hh1 : w.heap.size < W1.heap.size := by have h1 := HS.out; have h2 := B1.out.size; omega
  by_cases h0 : L.length = 0
  · have HT : Hid (termD L = emptyT) := by show _ = _; unfold termD; rw [if_pos h0]
    have CI1 : Hid (∀ W, Calls Try.prog 96 #[.int .i64 1] W fun e w' => e = .returned (.agg #[.int .i64 2, .int .i64 1, .string ByteArray.empty, .slice none 0 0]) ∧ Below W.heap.size W w') := fun W => refinteger_c 1 W
    have CI0 : Hid (∀ W, Calls Try.prog 96 #[.int .i64 0] W fun e w' => e = .returned (.agg #[.int .i64 2, .int .i64 0, .string ByteArray.empty, .slice none 0 0]) ∧ Below W.heap.size W w') := fun W => refinteger_c 0 W
    have CP : Hid (∀ W, Calls Try.prog 95 #[.string ⟨#[46, 46]⟩, .agg #[.int .i64 2, .int .i64 1, .string ByteArray.empty, .slice none 0 0], .agg #[.int .i64 2, .int .i64 0, .string ByteArray.empty, .slice none 0 0]] W fun e w' => ∃ pa qa, e = .returned (.agg #[.int .i64 4, .int .i64 0, .string ⟨#[46, 46]⟩, .slice pa 2 qa]) ∧ TmAt (fun b => W.heap.size ≤ b) w' emptyT (.slice pa 2 qa) ∧ Below W.heap.size W w') := fun W =>
      (refpair_c (p := fun _ => False) dotS (.int 1) (.int 0) (.slice none 0 0) (.slice none 0 0) W (.leaf rfl) (.leaf rfl)).mono fun e w' ⟨pa, qa, h1, h2, h3⟩ => ⟨pa, qa, h1, h2.mono fun b _ hp => ⟨hp.elim (fun h => h.elim) id, rfl⟩, h3⟩
    rw [h0] at R1 ⊢
    clear h0 CN
    go_wp2_with (first
      | (go_at_call 96; ((with_reducible refine (CI1.out _).mono ?_); rintro e WA ⟨rfl, bb⟩; have PA := Lib.hid bb; clear bb))
      | (go_at_call 96; ((with_reducible refine (CI0.out _).mono ?_); rintro e WB ⟨rfl, bb⟩; have PB := Lib.hid (PA.out.trans (bb.mono PA.out.size)); clear bb))
      | (go_at_call 95; ((with_reducible refine (CP.out _).mono ?_); rintro e WC ⟨pa, qa, rfl, tq, bb⟩; have PC := Lib.hid (PB.out.trans (bb.mono PB.out.size)); have TQ : Hid (TmAt (fun b => b ≠ w.heap.size) WC emptyT (.slice pa 2 qa)) := (tq.mono fun b _ hp => ⟨Nat.ne_of_gt (Nat.lt_of_lt_of_le hh1 (Nat.le_trans PB.out.size hp)), rfl⟩); clear bb tq; have HXC := Lib.hid (X1.out.below PC.out hh1); obtain ⟨⟨z0, z1, z2, z3⟩, f0, f1, f2, f3⟩ := box4c HXC.out)))
    refine post_gen7 fun W9 hW9 => ?_
    have hr := res4l (w := w) (Nat.le_refl _) HXC.out (P1.out.trans (PC.out.mono P1.out.size)) hW9
    clear z0 z1 z2 z3 f0 f1 f2 f3 hW9
    obtain ⟨⟨z0, z1, z2, z3⟩, -⟩ := box4c hr.1
    refine bodyPost_ret (v := .agg #[.int .i64 4, .int .i64 0, .string ⟨#[46, 46]⟩, .slice pa 2 qa]) (by simp [results, Try.results57, go_sem, z0, z1, z2, z3]; try rfl) rfl ?_
    rw [HT.out]
    exact ⟨pa, qa, rfl, TQ.out.mono fun b _ hp => ⟨trivial, hr.2.2 b hp⟩, hr.2.1⟩
  have HT : Hid (termD L = outT L L.length) := by show _ = _; unfold termD; rw [if_neg h0]
  have h0b : ((L.length : Int) == 0) = false := beq_eq_false_iff_ne.2 (by omega)
  have HLp : 0 < L.length := by omega
  clear h0 CN
  obtain ⟨h, hh⟩ : ∃ h, W1.heap.size = h + 1 := ⟨W1.heap.size - 1, by omega⟩
  obtain ⟨W2, hW2⟩ : ∃ W2, W2 = W1.alloc (.cells #[.int .i64 0, .int .i64 0, .string ⟨#[]⟩, .slice none 0 0] 24) := ⟨_, rfl⟩
  have hs2 : W2.heap.size = h + 2 := by rw [hW2]; simp [hh]
  have B2 : Below W1.heap.size W1 W2 := by rw [hW2]; exact (Below.refl _ _).alloc (Nat.le_refl _) _
  have D0 : Hid (Dt h W2 W2 W2 .nil (.slice none 0 0)) := by
    refine ⟨?_, .leaf rfl, fun _ _ _ => rfl, Nat.le_refl _, by omega, Below.refl _ _⟩
    have hx := BoxL.mk' W1 #[.int .i64 0, .int .i64 0, .string ⟨#[]⟩, .slice none 0 0] 24
    rw [hh] at hx
    rw [hW2]; exact hx
  have R2 : Hid (RgAt W2 (.slice a1 L.length c1) L) := R1.out.below B2
  have K0 : Hid (∀ W t tv, Dt h W2 W2 W t tv → BoxL W w.heap.size [.int .i64 0, .int .i64 0, .string ⟨#[]⟩, .slice none 0 0] ∧ Below w.heap.size w W) := fun W t tv hd => ⟨(X1.out.below B2 (by omega)).below hd.low (by omega), (P1.out.trans (B2.mono P1.out.size)).trans (hd.low.mono (by omega))⟩
  have HRL : Hid (∀ k (_ : k < L.length), ∃ b off cap, (.slice a1 L.length c1 : Value) = .slice (some ⟨b, off, none⟩) L.length cap ∧ b < h + 1 ∧ W2.cell? ⟨b, off + k * 2, none⟩ = some (.int .i64 L[k].1) ∧ W2.cell? ⟨b, off + k * 2 + 1, none⟩ = some (.int .i64 L[k].2)) := fun k hk => by
    obtain ⟨b, off, cap, hv, hb, y0, y1⟩ := rg_cells R1.out k hk
    exact ⟨b, off, cap, hv, by omega, (B2.cell (p := ⟨b, off + k * 2, none⟩) hb).trans y0, (B2.cell (p := ⟨b, off + k * 2 + 1, none⟩) hb).trans y1⟩
  have HH := Lib.hid hh
  have HWH : Hid (w.heap.size < h + 1) := by show _ < _; omega
  have HS2 := Lib.hid hs2
  go_upto_region 5 with (fail)
  rw [← hW2]
  clear hW2 hh hs2 B2 R1 R2 B1 XV
  go_wp2
  go_loopg [5] L.length (fun f i wr => ∃ (k : Nat) (gv : Value), k ≤ L.length ∧ i = .int .i64 k ∧ Hid (f = L.length - k) ∧ Hid (Dt h W2 W2 wr (outT L k) gv))
  case atStart => exact ⟨0, _, by omega, rfl, rfl, D0⟩
  case round =>
    obtain ⟨k, gv, hk, rfl, HN, HD⟩ := hrel
    obtain ⟨ga, gc, rfl, _⟩ := HD.out.outAt.shape
    by_cases hlt : k < L.length
    · obtain ⟨b1, off, c1', hv, hb1, y0, y1⟩ := HRL.out k hlt
      simp only [Value.slice.injEq, true_and] at hv
      obtain ⟨rfl, rfl⟩ := hv
      have HST := Lib.hid (outT_step L k hlt)
      have HBD := Lib.hid (HNo.out.bounds _ (List.getElem_mem hlt))
      have hsz := HD.out.sz
      have hs2 := HS2.out
      have hbr : b1 < wr.heap.size := by omega
      have KA : Hid (∀ W : World, (∀ b, b < W2.heap.size → b ≠ h + 1 → W.heap[b]? = W2.heap[b]?) → W.cell? ⟨b1, off + k * 2, none⟩ = some (.int .i64 L[k].1) ∧ W.cell? ⟨b1, off + k * 2 + 1, none⟩ = some (.int .i64 L[k].2)) := fun W hw =>
        ⟨(World.cell?_of_block (a := ⟨b1, off + k * 2, none⟩) (hw b1 (by omega) (by omega))).trans y0, (World.cell?_of_block (a := ⟨b1, off + k * 2 + 1, none⟩) (hw b1 (by omega) (by omega))).trans y1⟩
      have HRG : Hid (rgT L[k] = if L[k].1 < L[k].2 then pairT dotS (limT L[k].1) (limT L[k].2) else .int L[k].1) := rfl
      generalize rgT L[k] = tr at *
      generalize L[k].1 = lo at *
      generalize L[k].2 = hi at *
      clear y0 y1
      generalize outT L k = G at *
      obtain ⟨G', hG'⟩ : ∃ G', G' = outT L (k + 1) := ⟨_, rfl⟩
      rw [← hG'] at HST
      have HGp := Lib.hid hG'
      clear hG'
      obtain ⟨x0, x1⟩ := KA.out wr HD.out.agr
      have hu1 := limT_args lo
      have hu2 := limT_args hi
      have CL1 : Hid (∀ W, Calls Try.prog 97 #[.int .i64 lo] W fun e w' => e = .returned (.agg #[.int .i64 (limT lo).kind, .int .i64 (limT lo).num, .string (limT lo).name, .slice none 0 0]) ∧ Below W.heap.size W w') := fun W => reflimit_c lo W
      have CL2 : Hid (∀ W, Calls Try.prog 97 #[.int .i64 hi] W fun e w' => e = .returned (.agg #[.int .i64 (limT hi).kind, .int .i64 (limT hi).num, .string (limT hi).name, .slice none 0 0]) ∧ Below W.heap.size W w') := fun W => reflimit_c hi W
      have CP : Hid (∀ W, Below wr.heap.size wr W → Calls Try.prog 95 #[.string ⟨#[46, 46]⟩, .agg #[.int .i64 (limT lo).kind, .int .i64 (limT lo).num, .string (limT lo).name, .slice none 0 0], .agg #[.int .i64 (limT hi).kind, .int .i64 (limT hi).num, .string (limT hi).name, .slice none 0 0]] W fun e w' => ∃ pa qa, e = .returned (.agg #[.int .i64 4, .int .i64 0, .string ⟨#[46, 46]⟩, .slice pa 2 qa]) ∧ TmAt (fun b => W.heap.size ≤ b) w' (pairT dotS (limT lo) (limT hi)) (.slice pa 2 qa) ∧ Below W.heap.size W w') := fun W h =>
        (refpair_c (p := fun _ => False) dotS (limT lo) (limT hi) (.slice none 0 0) (.slice none 0 0) W (.leaf hu1) (.leaf hu2)).mono fun e w' ⟨pa, qa, h1, h2, h3⟩ => ⟨pa, qa, h1, h2.mono fun b _ hp => ⟨hp.elim (fun h => h.elim) id, rfl⟩, h3⟩
      clear hu1 hu2
      generalize limT lo = u1 at *
      generalize limT hi = u2 at *
      go_upto_region 8 with (fail)
      go_cut [6] (fun p wx => ∃ T pa qa, p = .pointer (some ⟨T, 0, none⟩) ∧ Hid (Good wr wx T (pairT dotS u1 u2) (.slice pa 2 qa)))
      case first =>
        go_region_held3 (fun W => W.cell? ⟨b1, off + k * 2, none⟩ = some (.int .i64 lo) ∧ W.cell? ⟨b1, off + k * 2 + 1, none⟩ = some (.int .i64 hi))
          ((first | exact rcells x0 x1 hbr PC.out | exact rcells x0 x1 hbr (PC.out.alloc PC.out.size _) | exact rcells x0 x1 hbr (below4 PC.out (Nat.le_refl _) _ _ _ _) | exact rcells x0 x1 hbr (below4 PC.out PA.out.size _ _ _ _) | exact rcells x0 x1 hbr (below4 PC.out PB.out.size _ _ _ _) | exact rcells x0 x1 hbr PB.out | exact rcells x0 x1 hbr (PB.out.alloc PB.out.size _) | exact rcells x0 x1 hbr PA.out | exact rcells x0 x1 hbr (PA.out.alloc PA.out.size _) | exact ⟨x0, x1⟩ | (refine rcells x0 x1 hbr ?_; go_grown)))
          (first
            | (go_at_call 97; ((with_reducible refine (CL1.out _).mono ?_); rintro e WA ⟨rfl, bb⟩; have PA : Hid (Below wr.heap.size wr WA) := Below.trans (B := wr.heap.size) (by first | exact (Below.refl _ _).drew | exact (Below.refl _ _).alloc (Nat.le_refl _) _ | exact ((Below.refl _ _).alloc (Nat.le_refl _) _).drew | exact ((Below.refl _ _).drew).alloc (Nat.le_refl _) _ | go_grown) (bb.mono (by first | exact Nat.le_refl _ | (simp; done) | (simp; omega))); (try (have QB := Lib.hid (boxLaterD bb))); (try (have QB := Lib.hid (boxLater bb)))))
            | (go_at_call 97; ((with_reducible refine (CL2.out _).mono ?_); rintro e WB ⟨rfl, bb⟩; have PB : Hid (Below wr.heap.size wr WB) := Below.trans (B := wr.heap.size) (by first | exact PA.out | exact PA.out.alloc PA.out.size _ | go_grown) (bb.mono (by first | exact PA.out.size | (have := PA.out.size; simp; omega))); (try (have QC := Lib.hid (QB.out.below bb (by have := QB.out.lt (by simp); simpa using this)))); (try (have QC := Lib.hid (boxLater bb)))))
            | (go_at_call 95; ((with_reducible refine (CP.out _ ?_).mono ?_); (· first | exact PB.out | exact PB.out.alloc PB.out.size _); rintro e WC ⟨pa, qa, rfl, tq, bb⟩; have PC : Hid (Below wr.heap.size wr WC) := Below.trans (B := wr.heap.size) (by first | exact PB.out | exact PB.out.alloc PB.out.size _ | go_grown) (bb.mono (by first | exact PB.out.size | (have := PB.out.size; simp; omega))); have TQ := Lib.hid tq; (try (have QD := Lib.hid (QC.out.below bb (by have := QC.out.lt (by simp); simpa using this)); obtain ⟨⟨t0, t1, t2, t3⟩, f0, f1, f2, f3⟩ := box4c QD.out)); (try (have QD := Lib.hid (boxLater bb); obtain ⟨⟨t0, t1, t2, t3⟩, f0, f1, f2, f3⟩ := box4c QD.out)))))
        · go_wp2_with fail
          go_meet
          exact ⟨_, pa, qa, rfl, Lib.hid (good_new (P := pairT dotS u1 u2) PC.out (TQ.out.mono fun b _ hp => ⟨Nat.le_trans PB.out.size hp, rfl⟩))⟩
        · go_wp2_with fail
          go_meet
          exact ⟨_, pa, qa, rfl, Lib.hid (good_set (P := pairT dotS u1 u2) PC.out PB.out.size QD.out (TQ.out.mono fun b _ hp => ⟨by have h := hp; simp only [World.size_alloc] at h; omega, rfl⟩) rfl)⟩
        · go_wp2_with fail
          go_meet
          have hq := QC.out.lt (by simp)
          exact ⟨_, pa, qa, rfl, Lib.hid (good_set (P := pairT dotS u1 u2) PC.out PA.out.size QD.out (TQ.out.mono fun b _ hp => ⟨Nat.lt_of_lt_of_le hq hp, rfl⟩) rfl)⟩
        · go_wp2_with fail
          go_meet
          have hq := QC.out.lt (by simp)
          exact ⟨_, pa, qa, rfl, Lib.hid (good_set (P := pairT dotS u1 u2) PC.out (Nat.le_refl _) QD.out (TQ.out.mono fun b _ hp => ⟨Nat.lt_of_lt_of_le hq hp, rfl⟩) rfl)⟩
      case rest =>
        obtain ⟨T, pa, qa, rfl, HG⟩ := hcut
        have MD0 := Lib.hid (HG.out.md HD.out)
        clear HG CL1 CL2 CP x0 x1
        obtain ⟨x0, x1⟩ := KA.out wc MD0.out.dt.agr
        have hbc : b1 < wc.heap.size := by have h1 := MD0.out.dt.sz; omega
        have MD : Hid (Md h W2 W2 wc.drew G (.slice ga G.args.length gc) T (pairT dotS u1 u2) (.slice pa 2 qa)) := MD0.out.below (Below.refl _ _).drew
        go_upto_region 9 with (fail)
        go_region
        clear x0 x1
        obtain ⟨U2, hU2⟩ : ∃ U2, U2 = wc.drew := ⟨_, rfl⟩
        rw [← hU2] at MD
        rw [← hU2]
        clear hU2 MD0 hbc
        by_cases hlh : lo = hi
        · have HTR : Hid (tr = Tm.int lo) := by have h := HRG.out; rw [if_neg (by omega)] at h; exact h
          have hlb : (lo == hi) = true := by simpa using hlh
          have CI : Hid (∀ W, Below U2.heap.size U2 W → Calls Try.prog 96 #[.int .i64 lo] W fun e w' => e = .returned (.agg #[.int .i64 2, .int .i64 lo, .string ByteArray.empty, .slice none 0 0]) ∧ Below U2.heap.size U2 w') := fun W h => (refinteger_c lo W).mono fun e w' ⟨h1, h2⟩ => ⟨h1, h.trans (h2.mono h.size)⟩
          obtain ⟨x0, x1⟩ := KA.out U2 MD.out.dt.agr
          have hbu : b1 < U2.heap.size := by have h1 := MD.out.dt.sz; omega
          obtain ⟨⟨t0, t1, t2, t3⟩, f0, f1, f2, f3⟩ := box4c MD.out.tb
          have hTU := MD.out.lt
          subst hlh
          go_upto_region 11 with (first | (go_at_call 96; ((with_reducible refine (CI.out _ (Below.refl _ _)).mono ?_); rintro e W5 ⟨rfl, bb⟩; have M5 := Lib.hid (MD.out.below bb); have hTW := M5.out.lt; clear bb t0 t1 t2 t3 f0 f1 f2 f3; obtain ⟨⟨t0, t1, t2, t3⟩, f0, f1, f2, f3⟩ := box4c M5.out.tb)))
          refine dt_gen fun U4 hU4 => ?_
          have M4 : Hid (Md h W2 W2 U4 G (.slice ga G.args.length gc) T (Tm.int lo) (.slice none 0 0)) := M5.out.put (t' := .int lo) (.leaf rfl) hU4
          clear hU4 M5 MD CI t0 t1 t2 t3 f0 f1 f2 f3 x0 x1 hTU hTW
          have hT1 : h + 1 < T := by have h1 := M4.out.far; have h2 := M4.out.dt.lo; omega
          have hTU := M4.out.lt
          obtain ⟨⟨t0, t1, t2, t3⟩, f0, f1, f2, f3⟩ := box4c M4.out.tb
          obtain ⟨⟨o0, o1, o2, o3⟩, e0, e1, e2, e3⟩ := box4c M4.out.dt.out
          by_cases hk0 : k = 0
          · have HGe : Hid (G' = Tm.int lo) := by have h := HST.out; rw [if_pos hk0, HTR.out] at h; exact h
            subst hk0
            have HG0 : Hid (∀ X, X = ((((U4.setCell ⟨h + 1, 0, none⟩ (.int .i64 (Tm.int lo).kind)).setCell ⟨h + 1, 1, none⟩ (.int .i64 (Tm.int lo).num)).setCell ⟨h + 1, 2, none⟩ (.string (Tm.int lo).name)).setCell ⟨h + 1, 3, none⟩ (Value.slice none 0 0)) → Dt h W2 W2 X (outT L (0 + 1)) (Value.slice none 0 0)) := fun X hX => by rw [← HGp.out, HGe.out]; exact M4.out.take hX
            go_wp2
            go_roundg (L.length - 1)
            case measure => have := HN.out; omega
            case rel => exact ⟨1, _, by omega, by go_num, rfl, HG0.out _ rfl⟩
          · have HGe : Hid (G' = pairT orS G (Tm.int lo)) := by have h := HST.out; rw [if_neg hk0, HTR.out] at h; exact h
            have CQ : Hid (∀ W, Below U4.heap.size U4 W → Calls Try.prog 95 #[.string ⟨#[92, 47]⟩, .agg #[.int .i64 G.kind, .int .i64 G.num, .string G.name, .slice ga G.args.length gc], .agg #[.int .i64 (Tm.int lo).kind, .int .i64 (Tm.int lo).num, .string (Tm.int lo).name, Value.slice none 0 0]] W fun e w' => ∃ pb qb, e = .returned (.agg #[.int .i64 4, .int .i64 0, .string ⟨#[92, 47]⟩, .slice pb 2 qb]) ∧ Dt h W2 W2 w' G (.slice ga G.args.length gc) ∧ TmAt (fun b => h + 2 ≤ b) w' (pairT orS G (Tm.int lo)) (.slice pb 2 qb)) := fun W h' =>
              (refpair_c (p := fun b => h + 2 ≤ b) orS G (Tm.int lo) _ _ W ((M4.out.below h').dt.outAt) ((M4.out.below h').tAt.mono fun b _ hp => ⟨hp.1, rfl⟩)).mono fun e w' ⟨pb, qb, h1, h2, h3⟩ => ⟨pb, qb, h1, ((M4.out.below h').below h3).dt, h2.mono fun b _ hp => ⟨by
                rcases hp with hp | hp
                · exact hp
                · have h7 := h'.size; have h8 := M4.out.dt.sz; have h9 := M4.out.dt.lo; omega, rfl⟩⟩
            have hkb : ((k : Int) == 0) = false := beq_eq_false_iff_ne.2 (by omega)
            clear hk0
            go_wp2_with (first | (go_at_call 95; ((with_reducible refine (CQ.out _ (Below.refl _ _)).mono ?_); rintro e W5 ⟨pb, qb, rfl, d5, tq⟩; have D5 := Lib.hid d5; have TQ := Lib.hid tq; have hlo5 := D5.out.lo; have hsz5 := D5.out.sz; clear d5 tq t0 t1 t2 t3 f0 f1 f2 f3 o0 o1 o2 o3 e0 e1 e2 e3; obtain ⟨⟨o0, o1, o2, o3⟩, e0, e1, e2, e3⟩ := box4c D5.out.out)))
            have HG1 : Hid (∀ Y, Y = ((((W5.setCell ⟨h + 1, 0, none⟩ (.int .i64 4)).setCell ⟨h + 1, 1, none⟩ (.int .i64 0)).setCell ⟨h + 1, 2, none⟩ (.string ⟨#[92, 47]⟩)).setCell ⟨h + 1, 3, none⟩ (.slice pb 2 qb)) → Dt h W2 W2 Y (outT L (k + 1)) (.slice pb 2 qb)) := fun Y hY => by rw [← HGp.out, HGe.out]; exact D5.out.put (t' := pairT orS G (Tm.int lo)) TQ.out hY
            go_roundg (L.length - (k + 1))
            case measure => have := HN.out; omega
            case rel => exact ⟨k + 1, _, by omega, by go_num, rfl, HG1.out _ rfl⟩
        · have HTR : Hid (tr = pairT dotS u1 u2) := by have h := HRG.out; rw [if_pos (by have h1 := HBD.out; omega)] at h; exact h
          have hlb : (lo == hi) = false := by simpa using hlh
          obtain ⟨U4, hU4⟩ : ∃ U4, U4 = U2 := ⟨_, rfl⟩
          have M4 : Hid (Md h W2 W2 U4 G (.slice ga G.args.length gc) T (pairT dotS u1 u2) (.slice pa 2 qa)) := by rw [hU4]; exact MD.out
          rw [← hU4]
          clear hU4 MD
          have hT1 : h + 1 < T := by have h1 := M4.out.far; have h2 := M4.out.dt.lo; omega
          have hTU := M4.out.lt
          obtain ⟨⟨t0, t1, t2, t3⟩, f0, f1, f2, f3⟩ := box4c M4.out.tb
          obtain ⟨⟨o0, o1, o2, o3⟩, e0, e1, e2, e3⟩ := box4c M4.out.dt.out
          by_cases hk0 : k = 0
          · have HGe : Hid (G' = pairT dotS u1 u2) := by have h := HST.out; rw [if_pos hk0, HTR.out] at h; exact h
            subst hk0
            have HG0 : Hid (∀ X, X = ((((U4.setCell ⟨h + 1, 0, none⟩ (.int .i64 (pairT dotS u1 u2).kind)).setCell ⟨h + 1, 1, none⟩ (.int .i64 (pairT dotS u1 u2).num)).setCell ⟨h + 1, 2, none⟩ (.string (pairT dotS u1 u2).name)).setCell ⟨h + 1, 3, none⟩ (Value.slice pa 2 qa)) → Dt h W2 W2 X (outT L (0 + 1)) (Value.slice pa 2 qa)) := fun X hX => by rw [← HGp.out, HGe.out]; exact M4.out.take hX
            go_wp2
            go_roundg (L.length - 1)
            case measure => have := HN.out; omega
            case rel => exact ⟨1, _, by omega, by go_num, rfl, HG0.out _ rfl⟩
          · have HGe : Hid (G' = pairT orS G (pairT dotS u1 u2)) := by have h := HST.out; rw [if_neg hk0, HTR.out] at h; exact h
            have CQ : Hid (∀ W, Below U4.heap.size U4 W → Calls Try.prog 95 #[.string ⟨#[92, 47]⟩, .agg #[.int .i64 G.kind, .int .i64 G.num, .string G.name, .slice ga G.args.length gc], .agg #[.int .i64 (pairT dotS u1 u2).kind, .int .i64 (pairT dotS u1 u2).num, .string (pairT dotS u1 u2).name, Value.slice pa 2 qa]] W fun e w' => ∃ pb qb, e = .returned (.agg #[.int .i64 4, .int .i64 0, .string ⟨#[92, 47]⟩, .slice pb 2 qb]) ∧ Dt h W2 W2 w' G (.slice ga G.args.length gc) ∧ TmAt (fun b => h + 2 ≤ b) w' (pairT orS G (pairT dotS u1 u2)) (.slice pb 2 qb)) := fun W h' =>
              (refpair_c (p := fun b => h + 2 ≤ b) orS G (pairT dotS u1 u2) _ _ W ((M4.out.below h').dt.outAt) ((M4.out.below h').tAt.mono fun b _ hp => ⟨hp.1, rfl⟩)).mono fun e w' ⟨pb, qb, h1, h2, h3⟩ => ⟨pb, qb, h1, ((M4.out.below h').below h3).dt, h2.mono fun b _ hp => ⟨by
                rcases hp with hp | hp
                · exact hp
                · have h7 := h'.size; have h8 := M4.out.dt.sz; have h9 := M4.out.dt.lo; omega, rfl⟩⟩
            have hkb : ((k : Int) == 0) = false := beq_eq_false_iff_ne.2 (by omega)
            clear hk0
            go_wp2_with (first | (go_at_call 95; ((with_reducible refine (CQ.out _ (Below.refl _ _)).mono ?_); rintro e W5 ⟨pb, qb, rfl, d5, tq⟩; have D5 := Lib.hid d5; have TQ := Lib.hid tq; have hlo5 := D5.out.lo; have hsz5 := D5.out.sz; clear d5 tq t0 t1 t2 t3 f0 f1 f2 f3 o0 o1 o2 o3 e0 e1 e2 e3; obtain ⟨⟨o0, o1, o2, o3⟩, e0, e1, e2, e3⟩ := box4c D5.out.out)))
            have HG1 : Hid (∀ Y, Y = ((((W5.setCell ⟨h + 1, 0, none⟩ (.int .i64 4)).setCell ⟨h + 1, 1, none⟩ (.int .i64 0)).setCell ⟨h + 1, 2, none⟩ (.string ⟨#[92, 47]⟩)).setCell ⟨h + 1, 3, none⟩ (.slice pb 2 qb)) → Dt h W2 W2 Y (outT L (k + 1)) (.slice pb 2 qb)) := fun Y hY => by rw [← HGp.out, HGe.out]; exact D5.out.put (t' := pairT orS G (pairT dotS u1 u2)) TQ.out hY
            go_roundg (L.length - (k + 1))
            case measure => have := HN.out; omega
            case rel => exact ⟨k + 1, _, by omega, by go_num, rfl, HG1.out _ rfl⟩
    · obtain rfl : k = L.length := by omega
      obtain ⟨hx, hbw⟩ := K0.out _ _ _ HD.out
      have HBW := Lib.hid hbw
      have hsz := HD.out.sz
      have hlo := HD.out.lo
      obtain ⟨⟨o0, o1, o2, o3⟩, -⟩ := box4c HD.out.out
      obtain ⟨⟨z0, z1, z2, z3⟩, f0, f1, f2, f3⟩ := box4c hx
      have HX := Lib.hid hx
      have HAT := Lib.hid HD.out.outAt
      have hwh := HWH.out
      clear hx hbw HD
      generalize outT L L.length = G at *
      go_wp2
      refine post_gen7 fun W9 hW9 => ?_
      have hr := res4l (w := w) (Nat.le_refl _) HX.out HBW.out hW9
      clear z0 z1 z2 z3 f0 f1 f2 f3 hW9
      obtain ⟨⟨z0, z1, z2, z3⟩, -⟩ := box4c hr.1
      refine bodyPost_ret (v := .agg #[.int .i64 G.kind, .int .i64 G.num, .string G.name, .slice ga G.args.length gc]) (by simp [results, Try.results57, go_sem, z0, z1, z2, z3]; try rfl) rfl ?_
      rw [HT.out]
      exact ⟨ga, gc, rfl, HAT.out.mono fun b _ hp => ⟨trivial, hr.2.2 b (by omega)⟩, hr.2.1⟩
end Go.Proofs.Ytmffobadnmkpbaa
