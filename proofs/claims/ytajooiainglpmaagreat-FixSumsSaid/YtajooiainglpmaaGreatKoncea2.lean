/-
  The reference's cut of layer 16, walked (printed by genrf3.py).
-/
import Derived.Test.YtajooiainglpmaaGreatKoncea1
import Derived.Test.YtajooiainglpmaaGreatKonce3
namespace Go.Proofs.YtajooiainglpmaaGreat
open Go.RowKit

set_option maxRecDepth 100000 in
set_option maxHeartbeats 6400000 in
theorem cut_any (kind : Int) (a0 a1 a2 : Option Addr) (n0 n1 n2 c0 c1 c2 : Nat) (rel c x y z : Int) (ad : Option Addr) (nd cd : Nat) (s : Int) (place : Nat) (va : Value) (D : List Rg) (st : Int → Bool) (w : World)
    (hd : RgAt w va D) (hD : Normal D)
    (hcs : ∀ W, Below w.heap.size w W → ∀ v : Int, -200 ≤ v ∧ v ≤ 200 → Calls Tryz.prog 69 #[.agg #[.int .i64 kind, .slice a0 n0 c0, .slice a1 n1 c1, .int .i64 rel, .int .i64 c, .int .i64 x, .int .i64 y, .int .i64 z, .slice a2 n2 c2], .slice ad nd cd, .int .i64 s, .int .i64 place, .int .i64 v] W fun e w' => e = .returned (.bool (st v)) ∧ Below W.heap.size W w')
    (hsy : kind = 4 → place = 0 → ∀ W, Below w.heap.size w W → Calls Tryz.prog 68 #[.agg #[.slice a0 n0 c0, .slice a1 n1 c1, .int .i64 rel, .int .i64 c], .slice ad nd cd] W fun e w' => e = .returned (.int .i64 s) ∧ Below W.heap.size W w')
    (hs0 : ¬ (kind = 4 ∧ place = 0) → s = 0) :
    Calls Tryz.prog 40 #[.agg #[.int .i64 kind, .slice a0 n0 c0, .slice a1 n1 c1, .int .i64 rel, .int .i64 c, .int .i64 x, .int .i64 y, .int .i64 z, .slice a2 n2 c2], .slice ad nd cd, .int .i64 place, va] w (RetR (canon fun v => memL D v && st v) w) := by
  obtain ⟨i0, hi, hz0, hz1, hz2⟩ := info_parts Tryz.infoRg
  obtain ⟨ao, cap, rfl, _⟩ := hd.shape
  have HD := Lib.hid hd
  have HBD := Lib.hid hD.bounds
  have hDl := normal_len hD
  have HG : Hid (∀ k, ((goneL st (D.take k)).length : Int) ≤ 402) := fun k => by
    have h1 := goneL_len st (D.take k) (fun r hr => (hD.bounds r (List.mem_of_mem_take hr)).2.1)
    have h2 := sizeL_le (D := D.take k) (normal_take hD k)
    omega
  have HGB : Hid (∀ k, ∀ r ∈ goneL st (D.take k), -200 ≤ r.2 ∧ r.2 ≤ 200) := fun k => goneL_bnd st (D.take k) (fun q hq => hD.bounds q (List.mem_of_mem_take hq))
  have HE := Lib.hid (cut_glue D hD st)
  have HS := Lib.hid (goneL_step st D)
  have CS := Lib.hid hcs
  have CY := Lib.hid hsy
  have HZ1 : Hid (Below w.heap.size w ((w.alloc (.cells #[.int .i64 kind, .slice a0 n0 c0, .slice a1 n1 c1, .int .i64 rel, .int .i64 c, .int .i64 x, .int .i64 y, .int .i64 z, .slice a2 n2 c2] 30)).alloc (.cells #[] 32))) := ((Below.refl _ _).alloc (Nat.le_refl _) _).alloc (by simp) _
  have HPK : Hid (∀ W, Below ((w.alloc (.cells #[.int .i64 kind, .slice a0 n0 c0, .slice a1 n1 c1, .int .i64 rel, .int .i64 c, .int .i64 x, .int .i64 y, .int .i64 z, .slice a2 n2 c2] 30)).alloc (.cells #[] 32)).heap.size ((w.alloc (.cells #[.int .i64 kind, .slice a0 n0 c0, .slice a1 n1 c1, .int .i64 rel, .int .i64 c, .int .i64 x, .int .i64 y, .int .i64 z, .slice a2 n2 c2] 30)).alloc (.cells #[] 32)) W → Below w.heap.size w W ∧ (∀ wi, Below (w.heap.size + 1) W wi → wi.cell? ⟨w.heap.size, 0, none⟩ = some (.int .i64 kind) ∧ wi.cell? ⟨w.heap.size, 1, none⟩ = some (.slice a0 n0 c0) ∧ wi.cell? ⟨w.heap.size, 2, none⟩ = some (.slice a1 n1 c1) ∧ wi.cell? ⟨w.heap.size, 3, none⟩ = some (.int .i64 rel) ∧ wi.cell? ⟨w.heap.size, 4, none⟩ = some (.int .i64 c) ∧ wi.cell? ⟨w.heap.size, 5, none⟩ = some (.int .i64 x) ∧ wi.cell? ⟨w.heap.size, 6, none⟩ = some (.int .i64 y) ∧ wi.cell? ⟨w.heap.size, 7, none⟩ = some (.int .i64 z) ∧ wi.cell? ⟨w.heap.size, 8, none⟩ = some (.slice a2 n2 c2)) ∧ W.ownsRow (w.heap.size + 1) 32 2 (.slice (some ⟨w.heap.size + 1, 0, none⟩) 0 0) 0 [] ∧ w.heap.size + 1 ≤ W.heap.size) := fun W h => by
    have hb := HZ1.out.trans (h.mono (by simp; omega))
    have hr : Below (w.alloc (.cells #[.int .i64 kind, .slice a0 n0 c0, .slice a1 n1 c1, .int .i64 rel, .int .i64 c, .int .i64 x, .int .i64 y, .int .i64 z, .slice a2 n2 c2] 30)).heap.size (w.alloc (.cells #[.int .i64 kind, .slice a0 n0 c0, .slice a1 n1 c1, .int .i64 rel, .int .i64 c, .int .i64 x, .int .i64 y, .int .i64 z, .slice a2 n2 c2] 30)) W := ((Below.refl _ _).alloc (Nat.le_refl _) _).trans (h.mono (by simp))
    refine ⟨hb, fun wi hi => box9 (T := 30) ?_, ?_, ?_⟩
    · have e : (w.alloc (.cells #[.int .i64 kind, .slice a0 n0 c0, .slice a1 n1 c1, .int .i64 rel, .int .i64 c, .int .i64 x, .int .i64 y, .int .i64 z, .slice a2 n2 c2] 30)).heap.size = w.heap.size + 1 := by simp
      rw [e] at hr ⊢
      exact hr.trans hi
    · have h1 := World.ownsRow_made (base := w.heap.size + 1) (e := 32) (size := 2) (w.alloc (.cells #[.int .i64 kind, .slice a0 n0 c0, .slice a1 n1 c1, .int .i64 rel, .int .i64 c, .int .i64 x, .int .i64 y, .int .i64 z, .slice a2 n2 c2] 30)) #[] 0 (by simp) (by decide) rfl
      rw [show (w.alloc (.cells #[.int .i64 kind, .slice a0 n0 c0, .slice a1 n1 c1, .int .i64 rel, .int .i64 c, .int .i64 x, .int .i64 y, .int .i64 z, .slice a2 n2 c2] 30)).heap.size = w.heap.size + 1 by simp] at h1
      exact own_below h1 h
    · have := h.size; simp at this; omega
  generalize canon (fun v => memL D v && st v) = R at *
  clear hd hD hcs hsy
  by_cases hk : kind = 4
  · have g4 : (kind == 4) = true := by simpa using hk
    by_cases hp : place = 0
    · have gp : ((place : Int) == 0) = true := by simp; omega
      have CY2 := Lib.hid (CY.out hk hp)
      clear CY hs0 hk hp
      go_enter Tryz.func40, Tryz.ntmps40
      go_wp2_with (go_at_call 68; (with_reducible refine (CY2.out _ HZ1.out).mono ?_); rintro e W ⟨rfl, bb⟩; have HWW := Lib.hid (HPK.out W bb); clear bb)
      obtain ⟨hw0, hy0, how, hWs⟩ := HWW.out
      have HW := Lib.hid hw0
      have HY := Lib.hid hy0
      have HOW := Lib.hid how
      clear HWW hw0 hy0 how HPK HZ1
      go_loopw [9, 11, 12] (fun o q _ wr => ∃ k : Nat, k ≤ D.length ∧ q = .int .i64 k ∧ wr.ownsRow (w.heap.size + 1) 32 2 o (glueL (goneL st (D.take k))).length (cellsR (glueL (goneL st (D.take k)))) ∧ Below (w.heap.size + 1) W wr) (fun _ q _ _ => D.length - (intOf q).toNat)
      case atStart => exact ⟨0, by omega, rfl, by rw [show glueL (goneL st (D.take 0)) = [] from rfl]; exact HOW.out, Below.refl _ _⟩
      case round =>
        obtain ⟨k, hk, rfl, hown, hbel⟩ := hrel
        have HB := Lib.hid hbel
        have hle := hbel.size
        clear hbel
        by_cases hlt : k < D.length
        · obtain ⟨bd, od, cd', he, _, hbd, hcs⟩ := RgAt.at HD.out (by omega)
          simp only [Value.slice.injEq, true_and] at he
          obtain ⟨rfl, rfl⟩ := he
          obtain ⟨k0, k1⟩ := hcs k hlt
          have HC : Hid (∀ wi, Below (w.heap.size + 1) W wi → wi.cell? ⟨bd, od + k * 2, none⟩ = some (.int .i64 D[k].1) ∧ wi.cell? ⟨bd, od + k * 2 + 1, none⟩ = some (.int .i64 D[k].2)) := fun wi h =>
            have hb : Below w.heap.size w wi := HW.out.trans (h.mono (Nat.le_succ _))
            ⟨(hb.cell (p := ⟨bd, od + k * 2, none⟩) hbd).trans k0, (hb.cell (p := ⟨bd, od + k * 2 + 1, none⟩) hbd).trans k1⟩
          obtain ⟨e0, e1⟩ := HC.out wr HB.out
          have S1 := Lib.hid (HS.out k hlt)
          have hg1 := HG.out (k + 1)
          obtain ⟨hr1, hr2, hr3⟩ := HBD.out D[k] (List.getElem_mem hlt)
          have HP : Hid (∀ j : Nat, D[k].1 + j ≤ D[k].2 + 1 → ∀ q ∈ glueL (goneL st (D.take k) ++ runG st D[k].1 j), -200 ≤ q.2 ∧ q.2 ≤ 200) := fun j hj => glueL_bnd _ (fun r hr => by
            rcases List.mem_append.1 hr with h | h
            · exact HGB.out k r h
            · have := runG_in st D[k].1 j r h; omega)
          have HLn : Hid (∀ j : Nat, D[k].1 + j ≤ D[k].2 + 1 → (glueL (goneL st (D.take k) ++ runG st D[k].1 j)).length ≤ 1000) := fun j hj => by
            have h1 := glueL_len (goneL st (D.take k) ++ runG st D[k].1 j)
            have h2 := runG_len st D[k].1 j
            have h3 := HG.out k
            rw [List.length_append] at h1
            omega
          have j1 : (k : Int) < D.length := by omega
          clear hcs k0 k1 hg1
          generalize D[k] = r at *
          obtain ⟨r1, r2⟩ := r
          dsimp only at *
          generalize goneL st (D.take k) = G at *
          go_wp2
          go_loopw [9, 12] (fun o q wi => ∃ j : Nat, r1 + j ≤ r2 + 1 ∧ q = .int .i64 (r1 + j) ∧ wi.ownsRow (w.heap.size + 1) 32 2 o (glueL (G ++ runG st r1 j)).length (cellsR (glueL (G ++ runG st r1 j))) ∧ Hid (Below (w.heap.size + 1) W wi)) (fun _ q _ => (r2 + 1 - intOf q).toNat)
          case atStart => exact ⟨0, by omega, by simp, by simpa [runG] using hown, HB⟩
          case round =>
            clear e0 e1 hown
            obtain ⟨j, hj, rfl, hown, HB1⟩ := hrel
            have hle1 := HB1.out.size
            obtain ⟨e0, e1⟩ := HC.out _ HB1.out
            by_cases hlt2 : r1 + j ≤ r2
            · obtain ⟨v, hv⟩ : ∃ v, v = r1 + (j : Int) := ⟨_, rfl⟩
              have hvb : -200 ≤ v ∧ v ≤ 200 := by omega
              have S2 : Hid (glueL (G ++ runG st r1 (j + 1)) = if st v = true then glue (glueL (G ++ runG st r1 j)) (v, v) else glueL (G ++ runG st r1 j)) := by
                show _ = _
                rw [hv, runG]
                split
                · rw [← List.append_assoc, glueL_snoc]
                · rw [List.append_nil]
              have HPj := Lib.hid (HP.out j hj)
              have hl2 := HLn.out j hj
              rw [← hv]
              have hm : (r2 + 1 - (v + 1)).toNat < (r2 + 1 - v).toNat := by omega
              have hv1 : r1 + ((j + 1 : Nat) : Int) = v + 1 := by omega
              have hvr : v ≤ r2 := by omega
              obtain ⟨hva, hvc⟩ := hvb
              have CSv := Lib.hid (CS.out _ (HW.out.trans (HB1.out.mono (Nat.le_succ _))) v ⟨hva, hvc⟩)
              obtain ⟨f0, f1, f2, f3, f4, f5, f6, f7, f8⟩ := HY.out _ HB1.out
              clear hv
              generalize glueL (G ++ runG st r1 j) = O at *
              generalize st v = sv at *
              cases sv with
              | false =>
                rw [if_neg (by decide)] at S2
                go_wp2_with (go_at_call 69; (with_reducible refine CSv.out.mono ?_); rintro e W5 ⟨rfl, bb⟩; have B5 := Lib.hid bb; clear bb)
                exact ⟨⟨j + 1, by omega, by rw [hv1]; try rfl, by rw [S2.out]; exact own_below hown B5.out, HB1.out.trans (B5.out.mono (Nat.le_trans hWs hle1))⟩, by simp [intOf]; omega⟩
              | true =>
                rw [if_pos rfl] at S2
                rcases List.eq_nil_or_concat O with rfl | ⟨M, p, rfl⟩
                · rw [glue_nil] at S2
                  obtain ⟨oa, oc, rfl, _⟩ := (SlAt.of_own hown).shape
                  rw [show ([] : List Rg).length = 0 from rfl] at hown ⊢
                  have hdz : decide ((0 : Nat) > 0) = false := rfl
                  have HO := Lib.hid hown
                  clear hown
                  go_wp2_with (first
                    | (go_at_call 69; (with_reducible refine CSv.out.mono ?_); rintro e W5 ⟨rfl, bb⟩; have B5 := Lib.hid bb; have HO5 := Lib.hid (own_below HO.out bb); have hle5 := bb.size; clear bb)
                    | (at_builtin; refine wpList_append2 rfl (.tmp 73) (.tmp 77) 22 rfl (w.heap.size + 1) 32 i0 (.agg #[.int .i64 0, .int .i64 0]) 16 Tryz.underlying22 hi hz0 hz1 hz2 rfl _ _ _ rfl HO5.out _ _ rfl rfl rfl rfl (by omega) (by omega) ?_; intro v1 w1 o1 bw n1; have BW1 := Lib.hid bw; have O1 := Lib.hid o1; clear bw o1))
                  exact ⟨⟨j + 1, by omega, by rw [hv1]; try rfl, by rw [S2.out]; exact O1.out, (HB1.out.trans (B5.out.mono (Nat.le_trans hWs hle1))).trans BW1.out⟩, by simp [intOf]; omega⟩
                · rw [List.concat_eq_append] at *
                  rw [glue_snoc] at S2
                  dsimp only at S2
                  obtain ⟨g, oc, rfl, hgb, hcells⟩ := owns_pos hown (by simp)
                  have hML : (M ++ [p]).length = M.length + 1 := by simp
                  have hpe : (M ++ [p])[M.length]'(by simp) = p := by simp
                  have HX : Hid (∀ W5, Below wr.heap.size wr W5 → W5.cell? ⟨g, M.length * 2 + 1, none⟩ = some (.int .i64 p.2) ∧ W5.frozen? ⟨g, M.length * 2 + 1, none⟩ = false ∧ W5.ownsRow (w.heap.size + 1) 32 2 (.slice (some ⟨g, 0, none⟩) (M.length + 1) oc) (M.length + 1) (cellsR (M ++ [p]))) := fun W5 bb => by
                    have ho := own_below hown bb
                    rw [hML] at ho
                    have hc := ho.cellAt (M.length * 2 + 1) (by omega)
                    rw [(cellsR_at (M ++ [p]) M.length (by simp)).2, hpe] at hc
                    exact ⟨hc, ho.frozenAt _, ho⟩
                  obtain ⟨hp1, hp2⟩ := HPj.out p (by simp)
                  rw [hML] at hl2 ⊢
                  have hdz : decide ((M.length : Int) + 1 > 0) = true := decide_eq_true (by omega)
                  have HML := Lib.hid hML
                  clear hown hcells hML hpe HPj HP HLn
                  by_cases hpr : p.2 + 1 = v
                  · rw [if_pos hpr] at S2
                    have hpe : (p.2 + 1 == v) = true := by simpa using hpr
                    clear hpr
                    go_wp2_with (go_at_call 69; (with_reducible refine CSv.out.mono ?_); rintro e W5 ⟨rfl, bb⟩; have B5 := Lib.hid bb; obtain ⟨d3, d4, ho5⟩ := HX.out _ bb; have HQ := Lib.hid (ho5.stored (M.length * 2 + 1) (.int .i64 v)); clear bb ho5)
                    refine ⟨⟨j + 1, by omega, by rw [hv1]; try rfl, ?_, ?_⟩, by simp [intOf]; omega⟩
                    · rw [S2.out, ← cellsR_last, List.length_append]
                      exact HQ.out.1
                    · exact (HB1.out.trans (B5.out.mono (Nat.le_trans hWs hle1))).setCell (p := ⟨g, M.length * 2 + 1, none⟩) hgb _
                  · rw [if_neg hpr] at S2
                    have hpe : (p.2 + 1 == v) = false := by simpa using hpr
                    clear hpr
                    go_wp2_with (first
                      | (go_at_call 69; (with_reducible refine CSv.out.mono ?_); rintro e W5 ⟨rfl, bb⟩; have B5 := Lib.hid bb; obtain ⟨d3, d4, ho5⟩ := HX.out _ bb; have HO5 := Lib.hid ho5; have hle5 := bb.size; clear bb ho5)
                      | (at_builtin; refine wpList_append2 rfl (.tmp 73) (.tmp 77) 22 rfl (w.heap.size + 1) 32 i0 (.agg #[.int .i64 0, .int .i64 0]) 16 Tryz.underlying22 hi hz0 hz1 hz2 rfl _ _ _ rfl HO5.out _ _ rfl rfl rfl rfl (by omega) (by omega) ?_; intro v1 w1 o1 bw n1; have BW1 := Lib.hid bw; have O1 := Lib.hid o1; clear bw o1))
                    refine ⟨⟨j + 1, by omega, by rw [hv1]; try rfl, ?_, (HB1.out.trans (B5.out.mono (Nat.le_trans hWs hle1))).trans BW1.out⟩, by simp [intOf]; omega⟩
                    rw [S2.out, List.length_append, cellsR_append, HML.out]; exact O1.out
            · have hjn : j = (r2 + 1 - r1).toNat := by omega
              rw [hjn, ← S1.out] at hown
              have hjr : r2 < r1 + (j : Int) := by omega
              go_wp2
              exact ⟨⟨k + 1, by omega, by go_num, hown, HB1.out⟩, by simp [intOf]; omega⟩
        · obtain rfl : k = D.length := by omega
          rw [List.take_length] at hown
          rw [HE.out] at hown
          obtain ⟨oa, oc, rfl, _⟩ := (SlAt.of_own hown).shape
          go_wp2
          go_ret
          exact ⟨_, _, rfl, RgAt.own hown, HW.out.trans (HB.out.mono (Nat.le_succ _))⟩
    · have gp : ((place : Int) == 0) = false := by simp; omega
      obtain rfl := hs0 (fun h => hp h.2)
      clear CY hk hp
      go_enter Tryz.func40, Tryz.ntmps40
      go_wp2
      have HWW := Lib.hid (HPK.out _ (Below.refl _ _))
      generalize ((w.alloc (.cells #[.int .i64 kind, .slice a0 n0 c0, .slice a1 n1 c1, .int .i64 rel, .int .i64 c, .int .i64 x, .int .i64 y, .int .i64 z, .slice a2 n2 c2] 30)).alloc (.cells #[] 32)) = W at HWW ⊢
      obtain ⟨hw0, hy0, how, hWs⟩ := HWW.out
      have HW := Lib.hid hw0
      have HY := Lib.hid hy0
      have HOW := Lib.hid how
      clear HWW hw0 hy0 how HPK HZ1
      go_loopw [9, 11, 12] (fun o q _ wr => ∃ k : Nat, k ≤ D.length ∧ q = .int .i64 k ∧ wr.ownsRow (w.heap.size + 1) 32 2 o (glueL (goneL st (D.take k))).length (cellsR (glueL (goneL st (D.take k)))) ∧ Below (w.heap.size + 1) W wr) (fun _ q _ _ => D.length - (intOf q).toNat)
      case atStart => exact ⟨0, by omega, rfl, by rw [show glueL (goneL st (D.take 0)) = [] from rfl]; exact HOW.out, Below.refl _ _⟩
      case round =>
        obtain ⟨k, hk, rfl, hown, hbel⟩ := hrel
        have HB := Lib.hid hbel
        have hle := hbel.size
        clear hbel
        by_cases hlt : k < D.length
        · obtain ⟨bd, od, cd', he, _, hbd, hcs⟩ := RgAt.at HD.out (by omega)
          simp only [Value.slice.injEq, true_and] at he
          obtain ⟨rfl, rfl⟩ := he
          obtain ⟨k0, k1⟩ := hcs k hlt
          have HC : Hid (∀ wi, Below (w.heap.size + 1) W wi → wi.cell? ⟨bd, od + k * 2, none⟩ = some (.int .i64 D[k].1) ∧ wi.cell? ⟨bd, od + k * 2 + 1, none⟩ = some (.int .i64 D[k].2)) := fun wi h =>
            have hb : Below w.heap.size w wi := HW.out.trans (h.mono (Nat.le_succ _))
            ⟨(hb.cell (p := ⟨bd, od + k * 2, none⟩) hbd).trans k0, (hb.cell (p := ⟨bd, od + k * 2 + 1, none⟩) hbd).trans k1⟩
          obtain ⟨e0, e1⟩ := HC.out wr HB.out
          have S1 := Lib.hid (HS.out k hlt)
          have hg1 := HG.out (k + 1)
          obtain ⟨hr1, hr2, hr3⟩ := HBD.out D[k] (List.getElem_mem hlt)
          have HP : Hid (∀ j : Nat, D[k].1 + j ≤ D[k].2 + 1 → ∀ q ∈ glueL (goneL st (D.take k) ++ runG st D[k].1 j), -200 ≤ q.2 ∧ q.2 ≤ 200) := fun j hj => glueL_bnd _ (fun r hr => by
            rcases List.mem_append.1 hr with h | h
            · exact HGB.out k r h
            · have := runG_in st D[k].1 j r h; omega)
          have HLn : Hid (∀ j : Nat, D[k].1 + j ≤ D[k].2 + 1 → (glueL (goneL st (D.take k) ++ runG st D[k].1 j)).length ≤ 1000) := fun j hj => by
            have h1 := glueL_len (goneL st (D.take k) ++ runG st D[k].1 j)
            have h2 := runG_len st D[k].1 j
            have h3 := HG.out k
            rw [List.length_append] at h1
            omega
          have j1 : (k : Int) < D.length := by omega
          clear hcs k0 k1 hg1
          generalize D[k] = r at *
          obtain ⟨r1, r2⟩ := r
          dsimp only at *
          generalize goneL st (D.take k) = G at *
          go_wp2
          go_loopw [9, 12] (fun o q wi => ∃ j : Nat, r1 + j ≤ r2 + 1 ∧ q = .int .i64 (r1 + j) ∧ wi.ownsRow (w.heap.size + 1) 32 2 o (glueL (G ++ runG st r1 j)).length (cellsR (glueL (G ++ runG st r1 j))) ∧ Hid (Below (w.heap.size + 1) W wi)) (fun _ q _ => (r2 + 1 - intOf q).toNat)
          case atStart => exact ⟨0, by omega, by simp, by simpa [runG] using hown, HB⟩
          case round =>
            clear e0 e1 hown
            obtain ⟨j, hj, rfl, hown, HB1⟩ := hrel
            have hle1 := HB1.out.size
            obtain ⟨e0, e1⟩ := HC.out _ HB1.out
            by_cases hlt2 : r1 + j ≤ r2
            · obtain ⟨v, hv⟩ : ∃ v, v = r1 + (j : Int) := ⟨_, rfl⟩
              have hvb : -200 ≤ v ∧ v ≤ 200 := by omega
              have S2 : Hid (glueL (G ++ runG st r1 (j + 1)) = if st v = true then glue (glueL (G ++ runG st r1 j)) (v, v) else glueL (G ++ runG st r1 j)) := by
                show _ = _
                rw [hv, runG]
                split
                · rw [← List.append_assoc, glueL_snoc]
                · rw [List.append_nil]
              have HPj := Lib.hid (HP.out j hj)
              have hl2 := HLn.out j hj
              rw [← hv]
              have hm : (r2 + 1 - (v + 1)).toNat < (r2 + 1 - v).toNat := by omega
              have hv1 : r1 + ((j + 1 : Nat) : Int) = v + 1 := by omega
              have hvr : v ≤ r2 := by omega
              obtain ⟨hva, hvc⟩ := hvb
              have CSv := Lib.hid (CS.out _ (HW.out.trans (HB1.out.mono (Nat.le_succ _))) v ⟨hva, hvc⟩)
              obtain ⟨f0, f1, f2, f3, f4, f5, f6, f7, f8⟩ := HY.out _ HB1.out
              clear hv
              generalize glueL (G ++ runG st r1 j) = O at *
              generalize st v = sv at *
              cases sv with
              | false =>
                rw [if_neg (by decide)] at S2
                go_wp2_with (go_at_call 69; (with_reducible refine CSv.out.mono ?_); rintro e W5 ⟨rfl, bb⟩; have B5 := Lib.hid bb; clear bb)
                exact ⟨⟨j + 1, by omega, by rw [hv1]; try rfl, by rw [S2.out]; exact own_below hown B5.out, HB1.out.trans (B5.out.mono (Nat.le_trans hWs hle1))⟩, by simp [intOf]; omega⟩
              | true =>
                rw [if_pos rfl] at S2
                rcases List.eq_nil_or_concat O with rfl | ⟨M, p, rfl⟩
                · rw [glue_nil] at S2
                  obtain ⟨oa, oc, rfl, _⟩ := (SlAt.of_own hown).shape
                  rw [show ([] : List Rg).length = 0 from rfl] at hown ⊢
                  have hdz : decide ((0 : Nat) > 0) = false := rfl
                  have HO := Lib.hid hown
                  clear hown
                  go_wp2_with (first
                    | (go_at_call 69; (with_reducible refine CSv.out.mono ?_); rintro e W5 ⟨rfl, bb⟩; have B5 := Lib.hid bb; have HO5 := Lib.hid (own_below HO.out bb); have hle5 := bb.size; clear bb)
                    | (at_builtin; refine wpList_append2 rfl (.tmp 73) (.tmp 77) 22 rfl (w.heap.size + 1) 32 i0 (.agg #[.int .i64 0, .int .i64 0]) 16 Tryz.underlying22 hi hz0 hz1 hz2 rfl _ _ _ rfl HO5.out _ _ rfl rfl rfl rfl (by omega) (by omega) ?_; intro v1 w1 o1 bw n1; have BW1 := Lib.hid bw; have O1 := Lib.hid o1; clear bw o1))
                  exact ⟨⟨j + 1, by omega, by rw [hv1]; try rfl, by rw [S2.out]; exact O1.out, (HB1.out.trans (B5.out.mono (Nat.le_trans hWs hle1))).trans BW1.out⟩, by simp [intOf]; omega⟩
                · rw [List.concat_eq_append] at *
                  rw [glue_snoc] at S2
                  dsimp only at S2
                  obtain ⟨g, oc, rfl, hgb, hcells⟩ := owns_pos hown (by simp)
                  have hML : (M ++ [p]).length = M.length + 1 := by simp
                  have hpe : (M ++ [p])[M.length]'(by simp) = p := by simp
                  have HX : Hid (∀ W5, Below wr.heap.size wr W5 → W5.cell? ⟨g, M.length * 2 + 1, none⟩ = some (.int .i64 p.2) ∧ W5.frozen? ⟨g, M.length * 2 + 1, none⟩ = false ∧ W5.ownsRow (w.heap.size + 1) 32 2 (.slice (some ⟨g, 0, none⟩) (M.length + 1) oc) (M.length + 1) (cellsR (M ++ [p]))) := fun W5 bb => by
                    have ho := own_below hown bb
                    rw [hML] at ho
                    have hc := ho.cellAt (M.length * 2 + 1) (by omega)
                    rw [(cellsR_at (M ++ [p]) M.length (by simp)).2, hpe] at hc
                    exact ⟨hc, ho.frozenAt _, ho⟩
                  obtain ⟨hp1, hp2⟩ := HPj.out p (by simp)
                  rw [hML] at hl2 ⊢
                  have hdz : decide ((M.length : Int) + 1 > 0) = true := decide_eq_true (by omega)
                  have HML := Lib.hid hML
                  clear hown hcells hML hpe HPj HP HLn
                  by_cases hpr : p.2 + 1 = v
                  · rw [if_pos hpr] at S2
                    have hpe : (p.2 + 1 == v) = true := by simpa using hpr
                    clear hpr
                    go_wp2_with (go_at_call 69; (with_reducible refine CSv.out.mono ?_); rintro e W5 ⟨rfl, bb⟩; have B5 := Lib.hid bb; obtain ⟨d3, d4, ho5⟩ := HX.out _ bb; have HQ := Lib.hid (ho5.stored (M.length * 2 + 1) (.int .i64 v)); clear bb ho5)
                    refine ⟨⟨j + 1, by omega, by rw [hv1]; try rfl, ?_, ?_⟩, by simp [intOf]; omega⟩
                    · rw [S2.out, ← cellsR_last, List.length_append]
                      exact HQ.out.1
                    · exact (HB1.out.trans (B5.out.mono (Nat.le_trans hWs hle1))).setCell (p := ⟨g, M.length * 2 + 1, none⟩) hgb _
                  · rw [if_neg hpr] at S2
                    have hpe : (p.2 + 1 == v) = false := by simpa using hpr
                    clear hpr
                    go_wp2_with (first
                      | (go_at_call 69; (with_reducible refine CSv.out.mono ?_); rintro e W5 ⟨rfl, bb⟩; have B5 := Lib.hid bb; obtain ⟨d3, d4, ho5⟩ := HX.out _ bb; have HO5 := Lib.hid ho5; have hle5 := bb.size; clear bb ho5)
                      | (at_builtin; refine wpList_append2 rfl (.tmp 73) (.tmp 77) 22 rfl (w.heap.size + 1) 32 i0 (.agg #[.int .i64 0, .int .i64 0]) 16 Tryz.underlying22 hi hz0 hz1 hz2 rfl _ _ _ rfl HO5.out _ _ rfl rfl rfl rfl (by omega) (by omega) ?_; intro v1 w1 o1 bw n1; have BW1 := Lib.hid bw; have O1 := Lib.hid o1; clear bw o1))
                    refine ⟨⟨j + 1, by omega, by rw [hv1]; try rfl, ?_, (HB1.out.trans (B5.out.mono (Nat.le_trans hWs hle1))).trans BW1.out⟩, by simp [intOf]; omega⟩
                    rw [S2.out, List.length_append, cellsR_append, HML.out]; exact O1.out
            · have hjn : j = (r2 + 1 - r1).toNat := by omega
              rw [hjn, ← S1.out] at hown
              have hjr : r2 < r1 + (j : Int) := by omega
              go_wp2
              exact ⟨⟨k + 1, by omega, by go_num, hown, HB1.out⟩, by simp [intOf]; omega⟩
        · obtain rfl : k = D.length := by omega
          rw [List.take_length] at hown
          rw [HE.out] at hown
          obtain ⟨oa, oc, rfl, _⟩ := (SlAt.of_own hown).shape
          go_wp2
          go_ret
          exact ⟨_, _, rfl, RgAt.own hown, HW.out.trans (HB.out.mono (Nat.le_succ _))⟩
  · have g4 : (kind == 4) = false := by simpa using hk
    obtain rfl := hs0 (fun h => hk h.1)
    clear CY hk
    go_enter Tryz.func40, Tryz.ntmps40
    go_wp2
    have HWW := Lib.hid (HPK.out _ (Below.refl _ _))
    generalize ((w.alloc (.cells #[.int .i64 kind, .slice a0 n0 c0, .slice a1 n1 c1, .int .i64 rel, .int .i64 c, .int .i64 x, .int .i64 y, .int .i64 z, .slice a2 n2 c2] 30)).alloc (.cells #[] 32)) = W at HWW ⊢
    obtain ⟨hw0, hy0, how, hWs⟩ := HWW.out
    have HW := Lib.hid hw0
    have HY := Lib.hid hy0
    have HOW := Lib.hid how
    clear HWW hw0 hy0 how HPK HZ1
    go_loopw [9, 11, 12] (fun o q _ wr => ∃ k : Nat, k ≤ D.length ∧ q = .int .i64 k ∧ wr.ownsRow (w.heap.size + 1) 32 2 o (glueL (goneL st (D.take k))).length (cellsR (glueL (goneL st (D.take k)))) ∧ Below (w.heap.size + 1) W wr) (fun _ q _ _ => D.length - (intOf q).toNat)
    case atStart => exact ⟨0, by omega, rfl, by rw [show glueL (goneL st (D.take 0)) = [] from rfl]; exact HOW.out, Below.refl _ _⟩
    case round =>
      obtain ⟨k, hk, rfl, hown, hbel⟩ := hrel
      have HB := Lib.hid hbel
      have hle := hbel.size
      clear hbel
      by_cases hlt : k < D.length
      · obtain ⟨bd, od, cd', he, _, hbd, hcs⟩ := RgAt.at HD.out (by omega)
        simp only [Value.slice.injEq, true_and] at he
        obtain ⟨rfl, rfl⟩ := he
        obtain ⟨k0, k1⟩ := hcs k hlt
        have HC : Hid (∀ wi, Below (w.heap.size + 1) W wi → wi.cell? ⟨bd, od + k * 2, none⟩ = some (.int .i64 D[k].1) ∧ wi.cell? ⟨bd, od + k * 2 + 1, none⟩ = some (.int .i64 D[k].2)) := fun wi h =>
          have hb : Below w.heap.size w wi := HW.out.trans (h.mono (Nat.le_succ _))
          ⟨(hb.cell (p := ⟨bd, od + k * 2, none⟩) hbd).trans k0, (hb.cell (p := ⟨bd, od + k * 2 + 1, none⟩) hbd).trans k1⟩
        obtain ⟨e0, e1⟩ := HC.out wr HB.out
        have S1 := Lib.hid (HS.out k hlt)
        have hg1 := HG.out (k + 1)
        obtain ⟨hr1, hr2, hr3⟩ := HBD.out D[k] (List.getElem_mem hlt)
        have HP : Hid (∀ j : Nat, D[k].1 + j ≤ D[k].2 + 1 → ∀ q ∈ glueL (goneL st (D.take k) ++ runG st D[k].1 j), -200 ≤ q.2 ∧ q.2 ≤ 200) := fun j hj => glueL_bnd _ (fun r hr => by
          rcases List.mem_append.1 hr with h | h
          · exact HGB.out k r h
          · have := runG_in st D[k].1 j r h; omega)
        have HLn : Hid (∀ j : Nat, D[k].1 + j ≤ D[k].2 + 1 → (glueL (goneL st (D.take k) ++ runG st D[k].1 j)).length ≤ 1000) := fun j hj => by
          have h1 := glueL_len (goneL st (D.take k) ++ runG st D[k].1 j)
          have h2 := runG_len st D[k].1 j
          have h3 := HG.out k
          rw [List.length_append] at h1
          omega
        have j1 : (k : Int) < D.length := by omega
        clear hcs k0 k1 hg1
        generalize D[k] = r at *
        obtain ⟨r1, r2⟩ := r
        dsimp only at *
        generalize goneL st (D.take k) = G at *
        go_wp2
        go_loopw [9, 12] (fun o q wi => ∃ j : Nat, r1 + j ≤ r2 + 1 ∧ q = .int .i64 (r1 + j) ∧ wi.ownsRow (w.heap.size + 1) 32 2 o (glueL (G ++ runG st r1 j)).length (cellsR (glueL (G ++ runG st r1 j))) ∧ Hid (Below (w.heap.size + 1) W wi)) (fun _ q _ => (r2 + 1 - intOf q).toNat)
        case atStart => exact ⟨0, by omega, by simp, by simpa [runG] using hown, HB⟩
        case round =>
          clear e0 e1 hown
          obtain ⟨j, hj, rfl, hown, HB1⟩ := hrel
          have hle1 := HB1.out.size
          obtain ⟨e0, e1⟩ := HC.out _ HB1.out
          by_cases hlt2 : r1 + j ≤ r2
          · obtain ⟨v, hv⟩ : ∃ v, v = r1 + (j : Int) := ⟨_, rfl⟩
            have hvb : -200 ≤ v ∧ v ≤ 200 := by omega
            have S2 : Hid (glueL (G ++ runG st r1 (j + 1)) = if st v = true then glue (glueL (G ++ runG st r1 j)) (v, v) else glueL (G ++ runG st r1 j)) := by
              show _ = _
              rw [hv, runG]
              split
              · rw [← List.append_assoc, glueL_snoc]
              · rw [List.append_nil]
            have HPj := Lib.hid (HP.out j hj)
            have hl2 := HLn.out j hj
            rw [← hv]
            have hm : (r2 + 1 - (v + 1)).toNat < (r2 + 1 - v).toNat := by omega
            have hv1 : r1 + ((j + 1 : Nat) : Int) = v + 1 := by omega
            have hvr : v ≤ r2 := by omega
            obtain ⟨hva, hvc⟩ := hvb
            have CSv := Lib.hid (CS.out _ (HW.out.trans (HB1.out.mono (Nat.le_succ _))) v ⟨hva, hvc⟩)
            obtain ⟨f0, f1, f2, f3, f4, f5, f6, f7, f8⟩ := HY.out _ HB1.out
            clear hv
            generalize glueL (G ++ runG st r1 j) = O at *
            generalize st v = sv at *
            cases sv with
            | false =>
              rw [if_neg (by decide)] at S2
              go_wp2_with (go_at_call 69; (with_reducible refine CSv.out.mono ?_); rintro e W5 ⟨rfl, bb⟩; have B5 := Lib.hid bb; clear bb)
              exact ⟨⟨j + 1, by omega, by rw [hv1]; try rfl, by rw [S2.out]; exact own_below hown B5.out, HB1.out.trans (B5.out.mono (Nat.le_trans hWs hle1))⟩, by simp [intOf]; omega⟩
            | true =>
              rw [if_pos rfl] at S2
              rcases List.eq_nil_or_concat O with rfl | ⟨M, p, rfl⟩
              · rw [glue_nil] at S2
                obtain ⟨oa, oc, rfl, _⟩ := (SlAt.of_own hown).shape
                rw [show ([] : List Rg).length = 0 from rfl] at hown ⊢
                have hdz : decide ((0 : Nat) > 0) = false := rfl
                have HO := Lib.hid hown
                clear hown
                go_wp2_with (first
                  | (go_at_call 69; (with_reducible refine CSv.out.mono ?_); rintro e W5 ⟨rfl, bb⟩; have B5 := Lib.hid bb; have HO5 := Lib.hid (own_below HO.out bb); have hle5 := bb.size; clear bb)
                  | (at_builtin; refine wpList_append2 rfl (.tmp 73) (.tmp 77) 22 rfl (w.heap.size + 1) 32 i0 (.agg #[.int .i64 0, .int .i64 0]) 16 Tryz.underlying22 hi hz0 hz1 hz2 rfl _ _ _ rfl HO5.out _ _ rfl rfl rfl rfl (by omega) (by omega) ?_; intro v1 w1 o1 bw n1; have BW1 := Lib.hid bw; have O1 := Lib.hid o1; clear bw o1))
                exact ⟨⟨j + 1, by omega, by rw [hv1]; try rfl, by rw [S2.out]; exact O1.out, (HB1.out.trans (B5.out.mono (Nat.le_trans hWs hle1))).trans BW1.out⟩, by simp [intOf]; omega⟩
              · rw [List.concat_eq_append] at *
                rw [glue_snoc] at S2
                dsimp only at S2
                obtain ⟨g, oc, rfl, hgb, hcells⟩ := owns_pos hown (by simp)
                have hML : (M ++ [p]).length = M.length + 1 := by simp
                have hpe : (M ++ [p])[M.length]'(by simp) = p := by simp
                have HX : Hid (∀ W5, Below wr.heap.size wr W5 → W5.cell? ⟨g, M.length * 2 + 1, none⟩ = some (.int .i64 p.2) ∧ W5.frozen? ⟨g, M.length * 2 + 1, none⟩ = false ∧ W5.ownsRow (w.heap.size + 1) 32 2 (.slice (some ⟨g, 0, none⟩) (M.length + 1) oc) (M.length + 1) (cellsR (M ++ [p]))) := fun W5 bb => by
                  have ho := own_below hown bb
                  rw [hML] at ho
                  have hc := ho.cellAt (M.length * 2 + 1) (by omega)
                  rw [(cellsR_at (M ++ [p]) M.length (by simp)).2, hpe] at hc
                  exact ⟨hc, ho.frozenAt _, ho⟩
                obtain ⟨hp1, hp2⟩ := HPj.out p (by simp)
                rw [hML] at hl2 ⊢
                have hdz : decide ((M.length : Int) + 1 > 0) = true := decide_eq_true (by omega)
                have HML := Lib.hid hML
                clear hown hcells hML hpe HPj HP HLn
                by_cases hpr : p.2 + 1 = v
                · rw [if_pos hpr] at S2
                  have hpe : (p.2 + 1 == v) = true := by simpa using hpr
                  clear hpr
                  go_wp2_with (go_at_call 69; (with_reducible refine CSv.out.mono ?_); rintro e W5 ⟨rfl, bb⟩; have B5 := Lib.hid bb; obtain ⟨d3, d4, ho5⟩ := HX.out _ bb; have HQ := Lib.hid (ho5.stored (M.length * 2 + 1) (.int .i64 v)); clear bb ho5)
                  refine ⟨⟨j + 1, by omega, by rw [hv1]; try rfl, ?_, ?_⟩, by simp [intOf]; omega⟩
                  · rw [S2.out, ← cellsR_last, List.length_append]
                    exact HQ.out.1
                  · exact (HB1.out.trans (B5.out.mono (Nat.le_trans hWs hle1))).setCell (p := ⟨g, M.length * 2 + 1, none⟩) hgb _
                · rw [if_neg hpr] at S2
                  have hpe : (p.2 + 1 == v) = false := by simpa using hpr
                  clear hpr
                  go_wp2_with (first
                    | (go_at_call 69; (with_reducible refine CSv.out.mono ?_); rintro e W5 ⟨rfl, bb⟩; have B5 := Lib.hid bb; obtain ⟨d3, d4, ho5⟩ := HX.out _ bb; have HO5 := Lib.hid ho5; have hle5 := bb.size; clear bb ho5)
                    | (at_builtin; refine wpList_append2 rfl (.tmp 73) (.tmp 77) 22 rfl (w.heap.size + 1) 32 i0 (.agg #[.int .i64 0, .int .i64 0]) 16 Tryz.underlying22 hi hz0 hz1 hz2 rfl _ _ _ rfl HO5.out _ _ rfl rfl rfl rfl (by omega) (by omega) ?_; intro v1 w1 o1 bw n1; have BW1 := Lib.hid bw; have O1 := Lib.hid o1; clear bw o1))
                  refine ⟨⟨j + 1, by omega, by rw [hv1]; try rfl, ?_, (HB1.out.trans (B5.out.mono (Nat.le_trans hWs hle1))).trans BW1.out⟩, by simp [intOf]; omega⟩
                  rw [S2.out, List.length_append, cellsR_append, HML.out]; exact O1.out
          · have hjn : j = (r2 + 1 - r1).toNat := by omega
            rw [hjn, ← S1.out] at hown
            have hjr : r2 < r1 + (j : Int) := by omega
            go_wp2
            exact ⟨⟨k + 1, by omega, by go_num, hown, HB1.out⟩, by simp [intOf]; omega⟩
      · obtain rfl : k = D.length := by omega
        rw [List.take_length] at hown
        rw [HE.out] at hown
        obtain ⟨oa, oc, rfl, _⟩ := (SlAt.of_own hown).shape
        go_wp2
        go_ret
        exact ⟨_, _, rfl, RgAt.own hown, HW.out.trans (HB.out.mono (Nat.le_succ _))⟩
end Go.Proofs.YtajooiainglpmaaGreat
