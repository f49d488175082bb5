/-
  The law LinAlone, walked.
-/
import Derived.Test.YtmmogifmogdegaaLin8
import Derived.Test.YtmmogifmogdegaaLin9
import Derived.Test.YtmmogifmogdegaaRefA
namespace Go.Proofs.Ytmmogifmogdegaa
open Go.RowKit

/-- what stays of one variable alone -/
def aloneS (d : List Rg) (rel C k : Int) (x : Int) : Bool := memL d x && holdsS rel C (k * x)
theorem cnt_last (S : Int → Bool) (j : Nat) (n : Int) : cnt S (j + 1) n = cnt S j n + (if S (n + j) = true then 1 else 0) := by
  rw [cnt_add S j 1 n]; simp only [cnt, Int.add_zero]
theorem isAt_lit1 (w : World) (z : Int) (T : TypeId) : IsAt (w.alloc (.cells #[.int .i64 z] T)) (.slice (some ⟨w.heap.size, 0, none⟩) 1 1) [z] :=
  SlAt.of_own (e := T) (World.ownsRow_lit (base := 0) w #[.int .i64 z] 1 (Nat.zero_le _) (by simp [maxLen]) rfl)
theorem dsAt_lit1 {w : World} {v : Value} {d : List Rg} (h : RgAt w v d) (T : TypeId) : DsAt (w.alloc (.cells #[v] T)) (.slice (some ⟨w.heap.size, 0, none⟩) 1 1) [d] := by
  have hs : SlAt (w.alloc (.cells #[v] T)) 1 (.slice (some ⟨w.heap.size, 0, none⟩) 1 1) 1 [v] := SlAt.of_own (e := T) (World.ownsRow_lit (base := 0) w #[v] 1 (Nat.zero_le _) (by simp [maxLen]) rfl)
  refine ⟨[v], rfl, hs, fun j hj => ?_⟩
  match j, hj with
  | 0, _ => exact ⟨v, rfl, SlAt.alloc h _⟩
/-- the world at the call of Once -/
structure AloneW (w W : World) (vd : Value) (d : List Rg) (rel C k : Int) : Prop where
  below : Below w.heap.size w W
  coef : IsAt W (.slice (some ⟨w.heap.size, 0, none⟩) 1 1) [k]
  vars : IsAt W (.slice (some ⟨w.heap.size + 1, 0, none⟩) 1 1) [0]
  doms : DsAt W (.slice (some ⟨w.heap.size + 1 + 1 + 1, 0, none⟩) 1 1) [d]
  c0 : W.cell? ⟨w.heap.size + 1 + 1, 0, none⟩ = some (.slice (some ⟨w.heap.size, 0, none⟩) 1 1)
  c1 : W.cell? ⟨w.heap.size + 1 + 1, 1, none⟩ = some (.slice (some ⟨w.heap.size + 1, 0, none⟩) 1 1)
  c2 : W.cell? ⟨w.heap.size + 1 + 1, 2, none⟩ = some (.int .i64 rel)
  c3 : W.cell? ⟨w.heap.size + 1 + 1, 3, none⟩ = some (.int .i64 C)
theorem alone_w (w : World) (vd : Value) (d : List Rg) (hd : RgAt w vd d) (rel C k : Int) (T1 T2 T3 T4 : TypeId) :
    AloneW w ((((w.alloc (.cells #[.int .i64 k] T1)).alloc (.cells #[.int .i64 0] T2)).alloc (.cells #[.slice (some ⟨w.heap.size, 0, none⟩) 1 1, .slice (some ⟨w.heap.size + 1, 0, none⟩) 1 1, .int .i64 rel, .int .i64 C] T3)).alloc (.cells #[vd] T4)) vd d rel C k := by
  have e1 : (w.alloc (.cells #[.int .i64 k] T1)).heap.size = w.heap.size + 1 := by simp
  have e3 : ((w.alloc (.cells #[.int .i64 k] T1)).alloc (.cells #[.int .i64 0] T2)).heap.size = w.heap.size + 1 + 1 := by simp
  have e4 : (((w.alloc (.cells #[.int .i64 k] T1)).alloc (.cells #[.int .i64 0] T2)).alloc (.cells #[.slice (some ⟨w.heap.size, 0, none⟩) 1 1, .slice (some ⟨w.heap.size + 1, 0, none⟩) 1 1, .int .i64 rel, .int .i64 C] T3)).heap.size = w.heap.size + 1 + 1 + 1 := by simp
  refine ⟨by go_grown, SlAt.alloc (SlAt.alloc (SlAt.alloc (isAt_lit1 w k T1) _) _) _, ?_, ?_, by go_simp, by go_simp, by go_simp, by go_simp⟩
  · have h := isAt_lit1 (w.alloc (.cells #[.int .i64 k] T1)) 0 T2
    rw [e1] at h
    exact SlAt.alloc (SlAt.alloc h _) _
  · have h := dsAt_lit1 (T := T4) (SlAt.alloc (SlAt.alloc (SlAt.alloc hd (.cells #[.int .i64 k] T1)) (.cells #[.int .i64 0] T2)) (.cells #[.slice (some ⟨w.heap.size, 0, none⟩) 1 1, .slice (some ⟨w.heap.size + 1, 0, none⟩) 1 1, .int .i64 rel, .int .i64 C] T3) : RgAt _ vd d)
    rw [e4] at h
    exact h

set_option maxRecDepth 100000 in
set_option maxHeartbeats 3200000 in
theorem linAlone_any (vd : Value) (d : List Rg) (z u c : Int) (w : World) (hd : RgAt w vd d) (hz : -32768 ≤ z ∧ z ≤ 32767) (hu : 0 ≤ u ∧ u ≤ 255) (hc : -32768 ≤ c ∧ c ≤ 32767) :
    Calls Try.prog 4 #[.int .i16 z, .int .u8 u, .int .i16 c, vd] w fun e w' => e = .returned (.bool true) ∧ Below w.heap.size w w' := by
  obtain ⟨ao, cap, rfl, _⟩ := hd.shape
  by_cases hl : 10 < d.length
  · go_enter Try.func4, Try.ntmps4
    go_wp2
    go_ret
    exact ⟨rfl, Below.refl _ _⟩
  obtain ⟨hc1, hc2⟩ := hc
  obtain ⟨hz1, hz2⟩ := hz
  obtain ⟨hu1, hu2⟩ := hu
  have hm1 : -1000 < z.tmod 1000 := by have := Int.lt_tmod_of_pos z (show (0 : Int) < 1000 by decide); omega
  have hm2 : z.tmod 1000 < 1000 := Int.tmod_lt_of_pos z (by decide)
  have hr1 : 0 ≤ u.tmod 3 := Int.tmod_nonneg _ hu1
  have hr2 : u.tmod 3 < 3 := Int.tmod_lt_of_pos u (by decide)
  generalize hk0 : z.tmod 1000 = k0 at *
  generalize hr0 : u.tmod 3 = r0 at *
  have main : ∀ kk : Int, -1000 < kk → kk < 1000 → kk ≠ 0 → (kk = if k0 = 0 then 1 else k0) →
      Calls Try.prog 4 #[.int .i16 z, .int .u8 u, .int .i16 c, .slice ao d.length cap] w fun e w' => e = .returned (.bool true) ∧ Below w.heap.size w w' := fun kk hk1 hk2 hk3 hkk => by
    have hrel : (1 + r0 = 1 ∨ 1 + r0 = 2 ∨ 1 + r0 = 3) := by omega
    have AW : Hid (∀ T1 T2 T3 T4, AloneW w ((((w.alloc (.cells #[.int .i64 kk] T1)).alloc (.cells #[.int .i64 0] T2)).alloc (.cells #[.slice (some ⟨w.heap.size, 0, none⟩) 1 1, .slice (some ⟨w.heap.size + 1, 0, none⟩) 1 1, .int .i64 (1 + r0), .int .i64 c] T3)).alloc (.cells #[.slice ao d.length cap] T4)) (.slice ao d.length cap) d (1 + r0) c kk) := fun T1 T2 T3 T4 => alone_w w _ d hd (1 + r0) c kk T1 T2 T3 T4
    have hg : GoodL [kk] [0] [d] := ⟨rfl, by simp, by simp; omega, by simp, by simp; omega⟩
    have CO : Hid (∀ W, AloneW w W (.slice ao d.length cap) d (1 + r0) c kk → Calls Try.prog 10 #[.agg #[.slice (some ⟨w.heap.size, 0, none⟩) 1 1, .slice (some ⟨w.heap.size + 1, 0, none⟩) 1 1, .int .i64 (1 + r0), .int .i64 c], .slice (some ⟨w.heap.size + 1 + 1 + 1, 0, none⟩) 1 1] W
        (RetO (if canon (aloneS d (1 + r0) c kk) = [] then none else some [canon (aloneS d (1 + r0) c kk)]) W)) := fun W h => by
      have h1 := once_c _ _ _ (1 + r0) c [kk] [0] [d] W h.coef h.vars h.doms hg hrel ⟨by omega, by omega⟩ (by simp; exact hk3) (by simp)
      have e : onceL (1 + r0) c [d] (([kk] : List Int).zip [0]) = _ := once_alone (1 + r0) c kk hrel d
      rw [e] at h1; exact h1
    have CH : Hid (∀ (x : Int) W, -200 ≤ x → x ≤ 200 → Below w.heap.size w W → Calls Try.prog 11 #[.slice ao d.length cap, .int .i64 x] W fun e w' => e = .returned (.bool (memL d x)) ∧ W = w') := fun x W h1 h2 h => by
      have := refHas_c _ d x W (hd.below h) (by omega)
      rwa [show inD x = true by simp [inD]; omega, Bool.true_and] at this
    have CL : Hid (∀ (x : Int) W vx, -200 ≤ x → x ≤ 200 → IsAt W (.slice (some ⟨w.heap.size, 0, none⟩) 1 1) [kk] → IsAt W (.slice (some ⟨w.heap.size + 1, 0, none⟩) 1 1) [0] → IsAt W vx [x] → Calls Try.prog 12 #[.agg #[.slice (some ⟨w.heap.size, 0, none⟩) 1 1, .slice (some ⟨w.heap.size + 1, 0, none⟩) 1 1, .int .i64 (1 + r0), .int .i64 c], vx] W fun e w' => e = .returned (.bool (holdsS (1 + r0) c (kk * x))) ∧ Below W.heap.size W w') := fun x W vx h1 h2 h3 h4 h5 => by
      have h := holds_c _ _ vx (1 + r0) c [kk] [0] [x] [d] W h3 h4 h5 hg rfl (by simp; omega) hrel
      have e : holdsL (1 + r0) c [x] (([kk] : List Int).zip [0]) = holdsS (1 + r0) c (kk * x) := by simp [holdsL, sumX]
      rwa [e] at h
    have CR : Hid (∀ (v : Value) (L : List Rg) (x : Int) W, L.length ≤ 4096 → -200 ≤ x → x ≤ 200 → RgAt W v L → Calls Try.prog 11 #[v, .int .i64 x] W fun e w' => e = .returned (.bool (memL L x)) ∧ W = w') := fun v L x W hl' h1 h2 h => by
      have := refHas_c v L x W h hl'
      rwa [show inD x = true by simp [inD]; omega, Bool.true_and] at this
    have HF : Hid (∀ x, aloneS d (1 + r0) c kk x = (memL d x && holdsS (1 + r0) c (kk * x))) := fun x => rfl
    have HSz : Hid (sizeL (canon (aloneS d (1 + r0) c kk)) = cnt (aloneS d (1 + r0) c kk) 401 (-200)) := sizeL_canon _
    have HSp := Lib.hid (sizeL_pos (canon (aloneS d (1 + r0) c kk)) (fun r hr => ((canon_normal (aloneS d (1 + r0) c kk)).bounds r hr).2.1))
    have HSl : Hid ((canon (aloneS d (1 + r0) c kk)).length ≤ 4096) := Nat.le_trans (canon_len _) (by decide)
    have HSm : Hid (∀ x, -200 ≤ x → x ≤ 200 → memL (canon (aloneS d (1 + r0) c kk)) x = aloneS d (1 + r0) c kk x) := fun x h1 h2 => by rw [canon_mem]; simp [h1, h2]
    have HCn : Hid (∀ j, 0 ≤ cnt (aloneS d (1 + r0) c kk) j (-200) ∧ cnt (aloneS d (1 + r0) c kk) j (-200) ≤ j) := fun j => cnt_nonneg _ j _
    have HCs : Hid (∀ x : Int, -200 ≤ x → cnt (aloneS d (1 + r0) c kk) (x + 1 + 200).toNat (-200) = cnt (aloneS d (1 + r0) c kk) (x + 200).toNat (-200) + if aloneS d (1 + r0) c kk x = true then 1 else 0) := fun x hx => by
      rw [show (x + 1 + 200).toNat = (x + 200).toNat + 1 by omega, cnt_last, show (-200 : Int) + ((x + 200).toNat : Int) = x by omega]
    clear hd hg
    generalize aloneS d (1 + r0) c kk = F at *
    have w0 := wrap_small (x := 1 + r0) (by omega)
    by_cases hk00 : k0 = 0
    · rw [if_pos hk00] at hkk
      subst hkk
      subst hk00
      by_cases hS : canon F = []
      · skip
        have CO2 : Hid (∀ W, AloneW w W (.slice ao d.length cap) d (1 + r0) c 1 → Calls Try.prog 10 #[.agg #[.slice (some ⟨w.heap.size, 0, none⟩) 1 1, .slice (some ⟨w.heap.size + 1, 0, none⟩) 1 1, .int .i64 (1 + r0), .int .i64 c], .slice (some ⟨w.heap.size + 1 + 1 + 1, 0, none⟩) 1 1] W
            fun e w' => e = .returned (.tuple #[.slice none 0 0, .bool false]) ∧ Below W.heap.size W w') := fun W h => (CO.out W h).mono fun e w' ⟨hb, hh⟩ => by
          rw [if_pos hS] at hh
          rcases hh with ⟨_, _, _, h1, _⟩ | ⟨_, h2⟩
          · cases h1
          · exact ⟨h2, hb⟩
        have HZ : Hid (cnt F 401 (-200) = 0) := by show _ = _; rw [← HSz.out, hS]; rfl
        clear CO hS HSz HSp
        go_enter Try.func4, Try.ntmps4
        go_wp2_with (go_at_call 10; (with_reducible refine (CO2.out _ (AW.out 3 3 24 29)).mono ?_); rintro e W1 ⟨rfl, bb⟩; have A0 := Lib.hid (AW.out 3 3 24 29); have HB1 := Lib.hid bb; clear bb)
        have HW := Lib.hid (A0.out.below.trans (HB1.out.mono A0.out.below.size))
        have K0 := Lib.hid ((HB1.out.cell (p := ⟨w.heap.size + 1 + 1, 0, none⟩) (by simp)).trans A0.out.c0)
        have K1 := Lib.hid ((HB1.out.cell (p := ⟨w.heap.size + 1 + 1, 1, none⟩) (by simp)).trans A0.out.c1)
        have K2 := Lib.hid ((HB1.out.cell (p := ⟨w.heap.size + 1 + 1, 2, none⟩) (by simp)).trans A0.out.c2)
        have K3 := Lib.hid ((HB1.out.cell (p := ⟨w.heap.size + 1 + 1, 3, none⟩) (by simp)).trans A0.out.c3)
        have I0 := Lib.hid (A0.out.coef.below HB1.out)
        have I1 := Lib.hid (A0.out.vars.below HB1.out)
        have hwl := World.block_lt_of_cell? W1 _ K0.out
        clear A0 HB1 AW CO2
        go_loopw [14, 15] (fun n s wr => ∃ x : Int, -200 ≤ x ∧ x ≤ 201 ∧ s = .int .i64 x ∧ n = .int .i64 (cnt F (x + 200).toNat (-200)) ∧ Below W1.heap.size W1 wr) (fun _ s _ => (201 - intOf s).toNat)
        case atStart => exact ⟨-200, by omega, by omega, rfl, rfl, Below.refl _ _⟩
        case round =>
          obtain ⟨x, hx1, hx2, rfl, rfl, hbel⟩ := hrel
          have HB2 := Lib.hid hbel
          have hle := hbel.size
          clear hbel
          have hcb := HCn.out (x + 200).toNat
          obtain ⟨hcb1, hcb2⟩ := hcb
          have hcb3 : cnt F (x + 200).toNat (-200) ≤ 401 := by omega
          by_cases hlt : x ≤ 200
          · have hst := HCs.out x hx1
            have hFx := HF.out x
            have hbw : Below w.heap.size w wr := HW.out.trans (HB2.out.mono HW.out.size)
            have CH1 : Hid (∀ W, Below wr.heap.size wr W → Calls Try.prog 11 #[.slice ao d.length cap, .int .i64 x] W fun e w' => e = .returned (.bool (memL d x)) ∧ W = w') := fun W h => CH.out x W hx1 hlt (hbw.trans (h.mono hbw.size))
            have CL1 : Hid (∀ T, Calls Try.prog 12 #[.agg #[.slice (some ⟨w.heap.size, 0, none⟩) 1 1, .slice (some ⟨w.heap.size + 1, 0, none⟩) 1 1, .int .i64 (1 + r0), .int .i64 c], .slice (some ⟨wr.heap.size, 0, none⟩) 1 1] (wr.alloc (.cells #[.int .i64 x] T)) fun e w' => e = .returned (.bool (holdsS (1 + r0) c (1 * x))) ∧ Below (wr.alloc (.cells #[.int .i64 x] T)).heap.size (wr.alloc (.cells #[.int .i64 x] T)) w') :=
              fun T => CL.out x _ _ hx1 hlt (SlAt.alloc (I0.out.below HB2.out) _) (SlAt.alloc (I1.out.below HB2.out) _) (isAt_lit1 wr x T)
            rw [hFx] at hst
            have y0 := (HB2.out.cell (p := ⟨w.heap.size + 1 + 1, 0, none⟩) hwl).trans K0.out
            have y1 := (HB2.out.cell (p := ⟨w.heap.size + 1 + 1, 1, none⟩) hwl).trans K1.out
            have y2 := (HB2.out.cell (p := ⟨w.heap.size + 1 + 1, 2, none⟩) hwl).trans K2.out
            have y3 := (HB2.out.cell (p := ⟨w.heap.size + 1 + 1, 3, none⟩) hwl).trans K3.out
            have hyl := World.block_lt_of_cell? wr _ y0
            obtain ⟨m1, m2⟩ := mul_bnd x 1 1000 ⟨hx1, hlt⟩ ⟨by omega, by omega⟩
            have w1 := wrap_small (x := 1 * x) (by omega)
            generalize cnt F (x + 200).toNat (-200) = n0 at *
            have HN := Lib.hid hst
            clear hst hFx
            generalize hm : memL d x = mb at *
            generalize hs : holdsS (1 + r0) c (1 * x) = sb at *
            have HSb := Lib.hid hs
            clear hm hs
            have hm12 := And.intro m1 m2
            clear hm12
            (try rw [Int.one_mul] at w1)
            have BZ : Hid (∀ T, Below wr.heap.size wr (wr.alloc (.cells #[.int .i64 x] T))) := fun T => (Below.refl _ _).alloc (Nat.le_refl _) _
            have HB3 : Hid (∀ W, Below wr.heap.size wr W → Below W1.heap.size W1 W) := fun W h => HB2.out.trans (h.mono hle)
            by_cases hr1' : 1 + r0 = 1
            · have hrb : ((1 + r0) == 1) = true := by simp [hr1']
              have hyb : (1 * x == c) = sb := by rw [← HSb.out, hr1']; unfold holdsS; rw [if_neg (by decide), if_neg (by decide)]; rfl
              (try rw [Int.one_mul] at hyb)
              clear hr1'
              cases mb <;> cases sb
              all_goals
                go_wp2_with (first
                  | (go_at_call 11; (with_reducible refine (CH1.out _ (BZ.out 3)).mono ?_); rintro e w' ⟨rfl, rfl⟩)
                  | (go_at_call 12; (with_reducible refine (CL1.out 3).mono ?_); rintro e W3 ⟨rfl, b3⟩; have B3 := Lib.hid ((BZ.out 3).trans (b3.mono (BZ.out 3).size)); have z2 := (B3.out.cell (p := ⟨w.heap.size + 1 + 1, 2, none⟩) hyl).trans y2; clear b3)
                  | (go_at_call 11; (with_reducible refine (CH1.out _ B3.out).mono ?_); rintro e w' ⟨rfl, rfl⟩))
                exact ⟨⟨x + 1, by omega, by omega, rfl, by rw [HN.out]; simp, HB3.out _ (by first | exact B3.out | exact BZ.out _)⟩, by simp [intOf]; omega⟩
            · have hrb : ((1 + r0) == 1) = false := beqf hr1'
              clear hr1'
              cases mb <;> cases sb
              all_goals
                go_wp2_with (first
                  | (go_at_call 11; (with_reducible refine (CH1.out _ (BZ.out 3)).mono ?_); rintro e w' ⟨rfl, rfl⟩)
                  | (go_at_call 12; (with_reducible refine (CL1.out 3).mono ?_); rintro e W3 ⟨rfl, b3⟩; have B3 := Lib.hid ((BZ.out 3).trans (b3.mono (BZ.out 3).size)); have z2 := (B3.out.cell (p := ⟨w.heap.size + 1 + 1, 2, none⟩) hyl).trans y2; clear b3)
                  | (go_at_call 11; (with_reducible refine (CH1.out _ B3.out).mono ?_); rintro e w' ⟨rfl, rfl⟩))
                exact ⟨⟨x + 1, by omega, by omega, rfl, by rw [HN.out]; simp, HB3.out _ (by first | exact B3.out | exact BZ.out _)⟩, by simp [intOf]; omega⟩
          · obtain rfl : x = 201 := by omega
            have h401 : ((201 : Int) + 200).toNat = 401 := by decide
            rw [h401] at *
            generalize hn : cnt F 401 (-200) = n0 at *
            go_wp2
            go_ret
            exact ⟨ret_bool (by rw [HZ.out]; rfl), HW.out.trans (HB2.out.mono HW.out.size)⟩
      · skip
        have CO2 : Hid (∀ W, AloneW w W (.slice ao d.length cap) d (1 + r0) c 1 → Calls Try.prog 10 #[.agg #[.slice (some ⟨w.heap.size, 0, none⟩) 1 1, .slice (some ⟨w.heap.size + 1, 0, none⟩) 1 1, .int .i64 (1 + r0), .int .i64 c], .slice (some ⟨w.heap.size + 1 + 1 + 1, 0, none⟩) 1 1] W
            fun e w' => ∃ b off ap cp, e = .returned (.tuple #[.slice (some ⟨b, off, none⟩) 1 cp, .bool true]) ∧ b < w'.heap.size ∧ w'.cell? ⟨b, off, none⟩ = some ap ∧ RgAt w' ap (canon F) ∧ Below W.heap.size W w') := fun W h => (CO.out W h).mono fun e w' ⟨hb, hh⟩ => by
          rw [if_neg hS] at hh
          rcases hh with ⟨ds, ao2, cap2, h1, h2, h3⟩ | ⟨h1, _⟩
          · cases h1
            obtain ⟨b, off, a', c', rfl, _, h5, _, h6, h7⟩ := h3.get 0 (by simp)
            exact ⟨b, off, _, cap2, h2, h5, h6, h7, hb⟩
          · cases h1
        have HZ : Hid (0 < cnt F 401 (-200)) := by
          show _ < _
          rw [← HSz.out]
          have h1 := HSp.out.1
          rcases (show sizeL (canon F) = 0 ∨ 0 < sizeL (canon F) by omega) with h | h
          · exact absurd (HSp.out.2 h) hS
          · exact h
        clear CO hS HSz HSp
        go_enter Try.func4, Try.ntmps4
        go_wp2_with (go_at_call 10; (with_reducible refine (CO2.out _ (AW.out 3 3 24 29)).mono ?_); rintro e W1 ⟨ob, oo, oap, ocp, rfl, ol, oc, orr, bb⟩; have A0 := Lib.hid (AW.out 3 3 24 29); have HB1 := Lib.hid bb; clear bb)
        have HW := Lib.hid (A0.out.below.trans (HB1.out.mono A0.out.below.size))
        have K0 := Lib.hid ((HB1.out.cell (p := ⟨w.heap.size + 1 + 1, 0, none⟩) (by simp)).trans A0.out.c0)
        have K1 := Lib.hid ((HB1.out.cell (p := ⟨w.heap.size + 1 + 1, 1, none⟩) (by simp)).trans A0.out.c1)
        have K2 := Lib.hid ((HB1.out.cell (p := ⟨w.heap.size + 1 + 1, 2, none⟩) (by simp)).trans A0.out.c2)
        have K3 := Lib.hid ((HB1.out.cell (p := ⟨w.heap.size + 1 + 1, 3, none⟩) (by simp)).trans A0.out.c3)
        have I0 := Lib.hid (A0.out.coef.below HB1.out)
        have I1 := Lib.hid (A0.out.vars.below HB1.out)
        have hwl := World.block_lt_of_cell? W1 _ K0.out
        clear A0 HB1 AW CO2
        go_loopw [14, 15] (fun n s wr => ∃ x : Int, -200 ≤ x ∧ x ≤ 201 ∧ s = .int .i64 x ∧ n = .int .i64 (cnt F (x + 200).toNat (-200)) ∧ Below W1.heap.size W1 wr) (fun _ s _ => (201 - intOf s).toNat)
        case atStart => exact ⟨-200, by omega, by omega, rfl, rfl, Below.refl _ _⟩
        case round =>
          obtain ⟨x, hx1, hx2, rfl, rfl, hbel⟩ := hrel
          have HB2 := Lib.hid hbel
          have hle := hbel.size
          clear hbel
          have hcb := HCn.out (x + 200).toNat
          obtain ⟨hcb1, hcb2⟩ := hcb
          have hcb3 : cnt F (x + 200).toNat (-200) ≤ 401 := by omega
          by_cases hlt : x ≤ 200
          · have hst := HCs.out x hx1
            have hFx := HF.out x
            have hbw : Below w.heap.size w wr := HW.out.trans (HB2.out.mono HW.out.size)
            have CH1 : Hid (∀ W, Below wr.heap.size wr W → Calls Try.prog 11 #[.slice ao d.length cap, .int .i64 x] W fun e w' => e = .returned (.bool (memL d x)) ∧ W = w') := fun W h => CH.out x W hx1 hlt (hbw.trans (h.mono hbw.size))
            have CL1 : Hid (∀ T, Calls Try.prog 12 #[.agg #[.slice (some ⟨w.heap.size, 0, none⟩) 1 1, .slice (some ⟨w.heap.size + 1, 0, none⟩) 1 1, .int .i64 (1 + r0), .int .i64 c], .slice (some ⟨wr.heap.size, 0, none⟩) 1 1] (wr.alloc (.cells #[.int .i64 x] T)) fun e w' => e = .returned (.bool (holdsS (1 + r0) c (1 * x))) ∧ Below (wr.alloc (.cells #[.int .i64 x] T)).heap.size (wr.alloc (.cells #[.int .i64 x] T)) w') :=
              fun T => CL.out x _ _ hx1 hlt (SlAt.alloc (I0.out.below HB2.out) _) (SlAt.alloc (I1.out.below HB2.out) _) (isAt_lit1 wr x T)
            have CR1 : Hid (∀ W, Below wr.heap.size wr W → Calls Try.prog 11 #[oap, .int .i64 x] W fun e w' => e = .returned (.bool (F x)) ∧ W = w') := fun W h => by
              have := CR.out oap (canon F) x W HSl.out hx1 hlt ((orr.below HB2.out).below h)
              rwa [HSm.out x hx1 hlt] at this
            have oc2 := Lib.hid ((HB2.out.cell (p := ⟨ob, oo, none⟩) ol).trans oc)
            rw [hFx] at CR1
            rw [hFx] at hst
            have y0 := (HB2.out.cell (p := ⟨w.heap.size + 1 + 1, 0, none⟩) hwl).trans K0.out
            have y1 := (HB2.out.cell (p := ⟨w.heap.size + 1 + 1, 1, none⟩) hwl).trans K1.out
            have y2 := (HB2.out.cell (p := ⟨w.heap.size + 1 + 1, 2, none⟩) hwl).trans K2.out
            have y3 := (HB2.out.cell (p := ⟨w.heap.size + 1 + 1, 3, none⟩) hwl).trans K3.out
            have hyl := World.block_lt_of_cell? wr _ y0
            obtain ⟨m1, m2⟩ := mul_bnd x 1 1000 ⟨hx1, hlt⟩ ⟨by omega, by omega⟩
            have w1 := wrap_small (x := 1 * x) (by omega)
            generalize cnt F (x + 200).toNat (-200) = n0 at *
            have HN := Lib.hid hst
            clear hst hFx
            generalize hm : memL d x = mb at *
            generalize hs : holdsS (1 + r0) c (1 * x) = sb at *
            have HSb := Lib.hid hs
            clear hm hs
            have hm12 := And.intro m1 m2
            clear hm12
            (try rw [Int.one_mul] at w1)
            have BZ : Hid (∀ T, Below wr.heap.size wr (wr.alloc (.cells #[.int .i64 x] T))) := fun T => (Below.refl _ _).alloc (Nat.le_refl _) _
            have HB3 : Hid (∀ W, Below wr.heap.size wr W → Below W1.heap.size W1 W) := fun W h => HB2.out.trans (h.mono hle)
            by_cases hr1' : 1 + r0 = 1
            · have hrb : ((1 + r0) == 1) = true := by simp [hr1']
              have hyb : (1 * x == c) = sb := by rw [← HSb.out, hr1']; unfold holdsS; rw [if_neg (by decide), if_neg (by decide)]; rfl
              (try rw [Int.one_mul] at hyb)
              clear hr1'
              cases mb <;> cases sb
              all_goals
                have oc4 := oc2.out
                have obl := World.block_lt_of_cell? wr _ oc4
                go_wp2_with (first
                  | (go_at_call 11; (with_reducible refine (CH1.out _ (BZ.out 3)).mono ?_); rintro e w' ⟨rfl, rfl⟩)
                  | (go_at_call 12; (with_reducible refine (CL1.out 3).mono ?_); rintro e W3 ⟨rfl, b3⟩; have B3 := Lib.hid ((BZ.out 3).trans (b3.mono (BZ.out 3).size)); have z2 := (B3.out.cell (p := ⟨w.heap.size + 1 + 1, 2, none⟩) hyl).trans y2; have oc3 := (B3.out.cell (p := ⟨ob, oo, none⟩) (World.block_lt_of_cell? wr _ oc2.out)).trans oc2.out; clear b3)
                  | (go_at_call 11; (with_reducible refine (CH1.out _ B3.out).mono ?_); rintro e w' ⟨rfl, rfl⟩)
                  | (go_at_call 11; (with_reducible refine (CR1.out _ (BZ.out 3)).mono ?_); rintro e w' ⟨rfl, rfl⟩)
                  | (go_at_call 11; (with_reducible refine (CR1.out _ B3.out).mono ?_); rintro e w' ⟨rfl, rfl⟩))
                exact ⟨⟨x + 1, by omega, by omega, rfl, by rw [HN.out]; simp, HB3.out _ (by first | exact B3.out | exact BZ.out _)⟩, by simp [intOf]; omega⟩
            · have hrb : ((1 + r0) == 1) = false := beqf hr1'
              clear hr1'
              cases mb <;> cases sb
              all_goals
                have oc4 := oc2.out
                have obl := World.block_lt_of_cell? wr _ oc4
                go_wp2_with (first
                  | (go_at_call 11; (with_reducible refine (CH1.out _ (BZ.out 3)).mono ?_); rintro e w' ⟨rfl, rfl⟩)
                  | (go_at_call 12; (with_reducible refine (CL1.out 3).mono ?_); rintro e W3 ⟨rfl, b3⟩; have B3 := Lib.hid ((BZ.out 3).trans (b3.mono (BZ.out 3).size)); have z2 := (B3.out.cell (p := ⟨w.heap.size + 1 + 1, 2, none⟩) hyl).trans y2; have oc3 := (B3.out.cell (p := ⟨ob, oo, none⟩) (World.block_lt_of_cell? wr _ oc2.out)).trans oc2.out; clear b3)
                  | (go_at_call 11; (with_reducible refine (CH1.out _ B3.out).mono ?_); rintro e w' ⟨rfl, rfl⟩)
                  | (go_at_call 11; (with_reducible refine (CR1.out _ (BZ.out 3)).mono ?_); rintro e w' ⟨rfl, rfl⟩)
                  | (go_at_call 11; (with_reducible refine (CR1.out _ B3.out).mono ?_); rintro e w' ⟨rfl, rfl⟩))
                exact ⟨⟨x + 1, by omega, by omega, rfl, by rw [HN.out]; simp, HB3.out _ (by first | exact B3.out | exact BZ.out _)⟩, by simp [intOf]; omega⟩
          · obtain rfl : x = 201 := by omega
            have h401 : ((201 : Int) + 200).toNat = 401 := by decide
            rw [h401] at *
            generalize hn : cnt F 401 (-200) = n0 at *
            go_wp2
            go_ret
            exact ⟨ret_bool (by have := HZ.out; simp; omega), HW.out.trans (HB2.out.mono HW.out.size)⟩
    · rw [if_neg hk00] at hkk
      subst hkk
      have hkf : (kk == 0) = false := beqf hk00
      by_cases hS : canon F = []
      · skip
        have CO2 : Hid (∀ W, AloneW w W (.slice ao d.length cap) d (1 + r0) c kk → Calls Try.prog 10 #[.agg #[.slice (some ⟨w.heap.size, 0, none⟩) 1 1, .slice (some ⟨w.heap.size + 1, 0, none⟩) 1 1, .int .i64 (1 + r0), .int .i64 c], .slice (some ⟨w.heap.size + 1 + 1 + 1, 0, none⟩) 1 1] W
            fun e w' => e = .returned (.tuple #[.slice none 0 0, .bool false]) ∧ Below W.heap.size W w') := fun W h => (CO.out W h).mono fun e w' ⟨hb, hh⟩ => by
          rw [if_pos hS] at hh
          rcases hh with ⟨_, _, _, h1, _⟩ | ⟨_, h2⟩
          · cases h1
          · exact ⟨h2, hb⟩
        have HZ : Hid (cnt F 401 (-200) = 0) := by show _ = _; rw [← HSz.out, hS]; rfl
        clear CO hS HSz HSp
        go_enter Try.func4, Try.ntmps4
        go_wp2_with (go_at_call 10; (with_reducible refine (CO2.out _ (AW.out 3 3 24 29)).mono ?_); rintro e W1 ⟨rfl, bb⟩; have A0 := Lib.hid (AW.out 3 3 24 29); have HB1 := Lib.hid bb; clear bb)
        have HW := Lib.hid (A0.out.below.trans (HB1.out.mono A0.out.below.size))
        have K0 := Lib.hid ((HB1.out.cell (p := ⟨w.heap.size + 1 + 1, 0, none⟩) (by simp)).trans A0.out.c0)
        have K1 := Lib.hid ((HB1.out.cell (p := ⟨w.heap.size + 1 + 1, 1, none⟩) (by simp)).trans A0.out.c1)
        have K2 := Lib.hid ((HB1.out.cell (p := ⟨w.heap.size + 1 + 1, 2, none⟩) (by simp)).trans A0.out.c2)
        have K3 := Lib.hid ((HB1.out.cell (p := ⟨w.heap.size + 1 + 1, 3, none⟩) (by simp)).trans A0.out.c3)
        have I0 := Lib.hid (A0.out.coef.below HB1.out)
        have I1 := Lib.hid (A0.out.vars.below HB1.out)
        have hwl := World.block_lt_of_cell? W1 _ K0.out
        clear A0 HB1 AW CO2
        go_loopw [14, 15] (fun n s wr => ∃ x : Int, -200 ≤ x ∧ x ≤ 201 ∧ s = .int .i64 x ∧ n = .int .i64 (cnt F (x + 200).toNat (-200)) ∧ Below W1.heap.size W1 wr) (fun _ s _ => (201 - intOf s).toNat)
        case atStart => exact ⟨-200, by omega, by omega, rfl, rfl, Below.refl _ _⟩
        case round =>
          obtain ⟨x, hx1, hx2, rfl, rfl, hbel⟩ := hrel
          have HB2 := Lib.hid hbel
          have hle := hbel.size
          clear hbel
          have hcb := HCn.out (x + 200).toNat
          obtain ⟨hcb1, hcb2⟩ := hcb
          have hcb3 : cnt F (x + 200).toNat (-200) ≤ 401 := by omega
          by_cases hlt : x ≤ 200
          · have hst := HCs.out x hx1
            have hFx := HF.out x
            have hbw : Below w.heap.size w wr := HW.out.trans (HB2.out.mono HW.out.size)
            have CH1 : Hid (∀ W, Below wr.heap.size wr W → Calls Try.prog 11 #[.slice ao d.length cap, .int .i64 x] W fun e w' => e = .returned (.bool (memL d x)) ∧ W = w') := fun W h => CH.out x W hx1 hlt (hbw.trans (h.mono hbw.size))
            have CL1 : Hid (∀ T, Calls Try.prog 12 #[.agg #[.slice (some ⟨w.heap.size, 0, none⟩) 1 1, .slice (some ⟨w.heap.size + 1, 0, none⟩) 1 1, .int .i64 (1 + r0), .int .i64 c], .slice (some ⟨wr.heap.size, 0, none⟩) 1 1] (wr.alloc (.cells #[.int .i64 x] T)) fun e w' => e = .returned (.bool (holdsS (1 + r0) c (kk * x))) ∧ Below (wr.alloc (.cells #[.int .i64 x] T)).heap.size (wr.alloc (.cells #[.int .i64 x] T)) w') :=
              fun T => CL.out x _ _ hx1 hlt (SlAt.alloc (I0.out.below HB2.out) _) (SlAt.alloc (I1.out.below HB2.out) _) (isAt_lit1 wr x T)
            rw [hFx] at hst
            have y0 := (HB2.out.cell (p := ⟨w.heap.size + 1 + 1, 0, none⟩) hwl).trans K0.out
            have y1 := (HB2.out.cell (p := ⟨w.heap.size + 1 + 1, 1, none⟩) hwl).trans K1.out
            have y2 := (HB2.out.cell (p := ⟨w.heap.size + 1 + 1, 2, none⟩) hwl).trans K2.out
            have y3 := (HB2.out.cell (p := ⟨w.heap.size + 1 + 1, 3, none⟩) hwl).trans K3.out
            have hyl := World.block_lt_of_cell? wr _ y0
            obtain ⟨m1, m2⟩ := mul_bnd x kk 1000 ⟨hx1, hlt⟩ ⟨by omega, by omega⟩
            have w1 := wrap_small (x := kk * x) (by omega)
            generalize cnt F (x + 200).toNat (-200) = n0 at *
            have HN := Lib.hid hst
            clear hst hFx
            generalize hm : memL d x = mb at *
            generalize hs : holdsS (1 + r0) c (kk * x) = sb at *
            have HSb := Lib.hid hs
            clear hm hs
            have hm12 := And.intro m1 m2
            clear hm12
            (try rw [Int.one_mul] at w1)
            have BZ : Hid (∀ T, Below wr.heap.size wr (wr.alloc (.cells #[.int .i64 x] T))) := fun T => (Below.refl _ _).alloc (Nat.le_refl _) _
            have HB3 : Hid (∀ W, Below wr.heap.size wr W → Below W1.heap.size W1 W) := fun W h => HB2.out.trans (h.mono hle)
            by_cases hr1' : 1 + r0 = 1
            · have hrb : ((1 + r0) == 1) = true := by simp [hr1']
              have hyb : (kk * x == c) = sb := by rw [← HSb.out, hr1']; unfold holdsS; rw [if_neg (by decide), if_neg (by decide)]; rfl
              (try rw [Int.one_mul] at hyb)
              clear hr1'
              cases mb <;> cases sb
              all_goals
                go_wp2_with (first
                  | (go_at_call 11; (with_reducible refine (CH1.out _ (BZ.out 3)).mono ?_); rintro e w' ⟨rfl, rfl⟩)
                  | (go_at_call 12; (with_reducible refine (CL1.out 3).mono ?_); rintro e W3 ⟨rfl, b3⟩; have B3 := Lib.hid ((BZ.out 3).trans (b3.mono (BZ.out 3).size)); have z2 := (B3.out.cell (p := ⟨w.heap.size + 1 + 1, 2, none⟩) hyl).trans y2; clear b3)
                  | (go_at_call 11; (with_reducible refine (CH1.out _ B3.out).mono ?_); rintro e w' ⟨rfl, rfl⟩))
                exact ⟨⟨x + 1, by omega, by omega, rfl, by rw [HN.out]; simp, HB3.out _ (by first | exact B3.out | exact BZ.out _)⟩, by simp [intOf]; omega⟩
            · have hrb : ((1 + r0) == 1) = false := beqf hr1'
              clear hr1'
              cases mb <;> cases sb
              all_goals
                go_wp2_with (first
                  | (go_at_call 11; (with_reducible refine (CH1.out _ (BZ.out 3)).mono ?_); rintro e w' ⟨rfl, rfl⟩)
                  | (go_at_call 12; (with_reducible refine (CL1.out 3).mono ?_); rintro e W3 ⟨rfl, b3⟩; have B3 := Lib.hid ((BZ.out 3).trans (b3.mono (BZ.out 3).size)); have z2 := (B3.out.cell (p := ⟨w.heap.size + 1 + 1, 2, none⟩) hyl).trans y2; clear b3)
                  | (go_at_call 11; (with_reducible refine (CH1.out _ B3.out).mono ?_); rintro e w' ⟨rfl, rfl⟩))
                exact ⟨⟨x + 1, by omega, by omega, rfl, by rw [HN.out]; simp, HB3.out _ (by first | exact B3.out | exact BZ.out _)⟩, by simp [intOf]; omega⟩
          · obtain rfl : x = 201 := by omega
            have h401 : ((201 : Int) + 200).toNat = 401 := by decide
            rw [h401] at *
            generalize hn : cnt F 401 (-200) = n0 at *
            go_wp2
            go_ret
            exact ⟨ret_bool (by rw [HZ.out]; rfl), HW.out.trans (HB2.out.mono HW.out.size)⟩
      · skip
        have CO2 : Hid (∀ W, AloneW w W (.slice ao d.length cap) d (1 + r0) c kk → Calls Try.prog 10 #[.agg #[.slice (some ⟨w.heap.size, 0, none⟩) 1 1, .slice (some ⟨w.heap.size + 1, 0, none⟩) 1 1, .int .i64 (1 + r0), .int .i64 c], .slice (some ⟨w.heap.size + 1 + 1 + 1, 0, none⟩) 1 1] W
            fun e w' => ∃ b off ap cp, e = .returned (.tuple #[.slice (some ⟨b, off, none⟩) 1 cp, .bool true]) ∧ b < w'.heap.size ∧ w'.cell? ⟨b, off, none⟩ = some ap ∧ RgAt w' ap (canon F) ∧ Below W.heap.size W w') := fun W h => (CO.out W h).mono fun e w' ⟨hb, hh⟩ => by
          rw [if_neg hS] at hh
          rcases hh with ⟨ds, ao2, cap2, h1, h2, h3⟩ | ⟨h1, _⟩
          · cases h1
            obtain ⟨b, off, a', c', rfl, _, h5, _, h6, h7⟩ := h3.get 0 (by simp)
            exact ⟨b, off, _, cap2, h2, h5, h6, h7, hb⟩
          · cases h1
        have HZ : Hid (0 < cnt F 401 (-200)) := by
          show _ < _
          rw [← HSz.out]
          have h1 := HSp.out.1
          rcases (show sizeL (canon F) = 0 ∨ 0 < sizeL (canon F) by omega) with h | h
          · exact absurd (HSp.out.2 h) hS
          · exact h
        clear CO hS HSz HSp
        go_enter Try.func4, Try.ntmps4
        go_wp2_with (go_at_call 10; (with_reducible refine (CO2.out _ (AW.out 3 3 24 29)).mono ?_); rintro e W1 ⟨ob, oo, oap, ocp, rfl, ol, oc, orr, bb⟩; have A0 := Lib.hid (AW.out 3 3 24 29); have HB1 := Lib.hid bb; clear bb)
        have HW := Lib.hid (A0.out.below.trans (HB1.out.mono A0.out.below.size))
        have K0 := Lib.hid ((HB1.out.cell (p := ⟨w.heap.size + 1 + 1, 0, none⟩) (by simp)).trans A0.out.c0)
        have K1 := Lib.hid ((HB1.out.cell (p := ⟨w.heap.size + 1 + 1, 1, none⟩) (by simp)).trans A0.out.c1)
        have K2 := Lib.hid ((HB1.out.cell (p := ⟨w.heap.size + 1 + 1, 2, none⟩) (by simp)).trans A0.out.c2)
        have K3 := Lib.hid ((HB1.out.cell (p := ⟨w.heap.size + 1 + 1, 3, none⟩) (by simp)).trans A0.out.c3)
        have I0 := Lib.hid (A0.out.coef.below HB1.out)
        have I1 := Lib.hid (A0.out.vars.below HB1.out)
        have hwl := World.block_lt_of_cell? W1 _ K0.out
        clear A0 HB1 AW CO2
        go_loopw [14, 15] (fun n s wr => ∃ x : Int, -200 ≤ x ∧ x ≤ 201 ∧ s = .int .i64 x ∧ n = .int .i64 (cnt F (x + 200).toNat (-200)) ∧ Below W1.heap.size W1 wr) (fun _ s _ => (201 - intOf s).toNat)
        case atStart => exact ⟨-200, by omega, by omega, rfl, rfl, Below.refl _ _⟩
        case round =>
          obtain ⟨x, hx1, hx2, rfl, rfl, hbel⟩ := hrel
          have HB2 := Lib.hid hbel
          have hle := hbel.size
          clear hbel
          have hcb := HCn.out (x + 200).toNat
          obtain ⟨hcb1, hcb2⟩ := hcb
          have hcb3 : cnt F (x + 200).toNat (-200) ≤ 401 := by omega
          by_cases hlt : x ≤ 200
          · have hst := HCs.out x hx1
            have hFx := HF.out x
            have hbw : Below w.heap.size w wr := HW.out.trans (HB2.out.mono HW.out.size)
            have CH1 : Hid (∀ W, Below wr.heap.size wr W → Calls Try.prog 11 #[.slice ao d.length cap, .int .i64 x] W fun e w' => e = .returned (.bool (memL d x)) ∧ W = w') := fun W h => CH.out x W hx1 hlt (hbw.trans (h.mono hbw.size))
            have CL1 : Hid (∀ T, Calls Try.prog 12 #[.agg #[.slice (some ⟨w.heap.size, 0, none⟩) 1 1, .slice (some ⟨w.heap.size + 1, 0, none⟩) 1 1, .int .i64 (1 + r0), .int .i64 c], .slice (some ⟨wr.heap.size, 0, none⟩) 1 1] (wr.alloc (.cells #[.int .i64 x] T)) fun e w' => e = .returned (.bool (holdsS (1 + r0) c (kk * x))) ∧ Below (wr.alloc (.cells #[.int .i64 x] T)).heap.size (wr.alloc (.cells #[.int .i64 x] T)) w') :=
              fun T => CL.out x _ _ hx1 hlt (SlAt.alloc (I0.out.below HB2.out) _) (SlAt.alloc (I1.out.below HB2.out) _) (isAt_lit1 wr x T)
            have CR1 : Hid (∀ W, Below wr.heap.size wr W → Calls Try.prog 11 #[oap, .int .i64 x] W fun e w' => e = .returned (.bool (F x)) ∧ W = w') := fun W h => by
              have := CR.out oap (canon F) x W HSl.out hx1 hlt ((orr.below HB2.out).below h)
              rwa [HSm.out x hx1 hlt] at this
            have oc2 := Lib.hid ((HB2.out.cell (p := ⟨ob, oo, none⟩) ol).trans oc)
            rw [hFx] at CR1
            rw [hFx] at hst
            have y0 := (HB2.out.cell (p := ⟨w.heap.size + 1 + 1, 0, none⟩) hwl).trans K0.out
            have y1 := (HB2.out.cell (p := ⟨w.heap.size + 1 + 1, 1, none⟩) hwl).trans K1.out
            have y2 := (HB2.out.cell (p := ⟨w.heap.size + 1 + 1, 2, none⟩) hwl).trans K2.out
            have y3 := (HB2.out.cell (p := ⟨w.heap.size + 1 + 1, 3, none⟩) hwl).trans K3.out
            have hyl := World.block_lt_of_cell? wr _ y0
            obtain ⟨m1, m2⟩ := mul_bnd x kk 1000 ⟨hx1, hlt⟩ ⟨by omega, by omega⟩
            have w1 := wrap_small (x := kk * x) (by omega)
            generalize cnt F (x + 200).toNat (-200) = n0 at *
            have HN := Lib.hid hst
            clear hst hFx
            generalize hm : memL d x = mb at *
            generalize hs : holdsS (1 + r0) c (kk * x) = sb at *
            have HSb := Lib.hid hs
            clear hm hs
            have hm12 := And.intro m1 m2
            clear hm12
            (try rw [Int.one_mul] at w1)
            have BZ : Hid (∀ T, Below wr.heap.size wr (wr.alloc (.cells #[.int .i64 x] T))) := fun T => (Below.refl _ _).alloc (Nat.le_refl _) _
            have HB3 : Hid (∀ W, Below wr.heap.size wr W → Below W1.heap.size W1 W) := fun W h => HB2.out.trans (h.mono hle)
            by_cases hr1' : 1 + r0 = 1
            · have hrb : ((1 + r0) == 1) = true := by simp [hr1']
              have hyb : (kk * x == c) = sb := by rw [← HSb.out, hr1']; unfold holdsS; rw [if_neg (by decide), if_neg (by decide)]; rfl
              (try rw [Int.one_mul] at hyb)
              clear hr1'
              cases mb <;> cases sb
              all_goals
                have oc4 := oc2.out
                have obl := World.block_lt_of_cell? wr _ oc4
                go_wp2_with (first
                  | (go_at_call 11; (with_reducible refine (CH1.out _ (BZ.out 3)).mono ?_); rintro e w' ⟨rfl, rfl⟩)
                  | (go_at_call 12; (with_reducible refine (CL1.out 3).mono ?_); rintro e W3 ⟨rfl, b3⟩; have B3 := Lib.hid ((BZ.out 3).trans (b3.mono (BZ.out 3).size)); have z2 := (B3.out.cell (p := ⟨w.heap.size + 1 + 1, 2, none⟩) hyl).trans y2; have oc3 := (B3.out.cell (p := ⟨ob, oo, none⟩) (World.block_lt_of_cell? wr _ oc2.out)).trans oc2.out; clear b3)
                  | (go_at_call 11; (with_reducible refine (CH1.out _ B3.out).mono ?_); rintro e w' ⟨rfl, rfl⟩)
                  | (go_at_call 11; (with_reducible refine (CR1.out _ (BZ.out 3)).mono ?_); rintro e w' ⟨rfl, rfl⟩)
                  | (go_at_call 11; (with_reducible refine (CR1.out _ B3.out).mono ?_); rintro e w' ⟨rfl, rfl⟩))
                exact ⟨⟨x + 1, by omega, by omega, rfl, by rw [HN.out]; simp, HB3.out _ (by first | exact B3.out | exact BZ.out _)⟩, by simp [intOf]; omega⟩
            · have hrb : ((1 + r0) == 1) = false := beqf hr1'
              clear hr1'
              cases mb <;> cases sb
              all_goals
                have oc4 := oc2.out
                have obl := World.block_lt_of_cell? wr _ oc4
                go_wp2_with (first
                  | (go_at_call 11; (with_reducible refine (CH1.out _ (BZ.out 3)).mono ?_); rintro e w' ⟨rfl, rfl⟩)
                  | (go_at_call 12; (with_reducible refine (CL1.out 3).mono ?_); rintro e W3 ⟨rfl, b3⟩; have B3 := Lib.hid ((BZ.out 3).trans (b3.mono (BZ.out 3).size)); have z2 := (B3.out.cell (p := ⟨w.heap.size + 1 + 1, 2, none⟩) hyl).trans y2; have oc3 := (B3.out.cell (p := ⟨ob, oo, none⟩) (World.block_lt_of_cell? wr _ oc2.out)).trans oc2.out; clear b3)
                  | (go_at_call 11; (with_reducible refine (CH1.out _ B3.out).mono ?_); rintro e w' ⟨rfl, rfl⟩)
                  | (go_at_call 11; (with_reducible refine (CR1.out _ (BZ.out 3)).mono ?_); rintro e w' ⟨rfl, rfl⟩)
                  | (go_at_call 11; (with_reducible refine (CR1.out _ B3.out).mono ?_); rintro e w' ⟨rfl, rfl⟩))
                exact ⟨⟨x + 1, by omega, by omega, rfl, by rw [HN.out]; simp, HB3.out _ (by first | exact B3.out | exact BZ.out _)⟩, by simp [intOf]; omega⟩
          · obtain rfl : x = 201 := by omega
            have h401 : ((201 : Int) + 200).toNat = 401 := by decide
            rw [h401] at *
            generalize hn : cnt F 401 (-200) = n0 at *
            go_wp2
            go_ret
            exact ⟨ret_bool (by have := HZ.out; simp; omega), HW.out.trans (HB2.out.mono HW.out.size)⟩
  by_cases h : k0 = 0
  · exact main 1 (by decide) (by decide) (by decide) (by rw [if_pos h])
  · exact main k0 (by omega) (by omega) h (by rw [if_neg h])
end Go.Proofs.Ytmmogifmogdegaa
