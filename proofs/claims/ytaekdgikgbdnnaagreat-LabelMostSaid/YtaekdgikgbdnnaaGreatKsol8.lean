/-
  The law's own list of all solutions, walked.
  PLAIN LAWS of what Solve finds with all variables labeled; no program.
  Solve with all variables labeled; LabelOptions.
-/
import Derived.Test.YtaekdgikgbdnnaaGreatKsol7
import Derived.Deep.RegionHeld3
import Derived.Handy
namespace Go.Proofs.YtaekdgikgbdnnaaGreat
open Go.RowKit

def RetLs (L : List (List Int)) (w : World) (e : Ending) (w' : World) : Prop := ∃ ao cap, e = .returned (.slice ao L.length cap) ∧ LsAt w' (.slice ao L.length cap) L ∧ Below w.heap.size w w'
theorem filter_snoc {α : Type} {l : List α} {f : α → Bool} {k : Nat} (hk : k < l.length) : (l.take (k + 1)).filter f = (l.take k).filter f ++ (if f l[k] = true then [l[k]] else []) := by
  rw [List.take_succ_eq_append_getElem hk, List.filter_append]
  congr 1
  by_cases h : f l[k] = true
  · simp [h]
  · simp [h]
theorem vals_get (d : List Rg) (n : Nat) (hn : n < (valsL d).length) : atV (if (n : Int) < 0 then none else atL (norm d) n) = .tuple #[.int .i64 (valsL d)[n], .bool true] := by
  rw [if_neg (by omega), valsL_at, List.getElem?_eq_getElem hn]
  rfl

set_option maxRecDepth 1000000 in
set_option maxHeartbeats 6400000 in
theorem every_c (vds vps : Value) (ds : Ds) (ps : List PL) (w : World) (hd : DsAt w vds ds) (hp : PsAt w vps ps) (hr : right19 ds ps = true) (hsz : prodI ds ≤ 200) (h4 : ds.length ≤ 4) (hsm : ∀ d ∈ ds, d.length ≤ 4 ∧ sizeL (norm d) ≤ 60) :
    Calls Tryz.prog 15 #[.agg #[vds, vps]] w (RetLs (everyL ds ps) w) := by
  obtain ⟨a0, c0, rfl, _⟩ := hd.shape
  obtain ⟨a1, c1, rfl, _⟩ := hp.shape
  obtain ⟨t0, ht, hz0, hz1, hz2⟩ := info_parts Tryz.infoIntR
  obtain ⟨t1, hti, hy0, hy1, hy2⟩ := info_parts Tryz.infoInts
  have HZ : Hid (Below w.heap.size w (w.alloc (.cells #[.slice a0 ds.length c0, .slice a1 ps.length c1] 25))) := (Below.refl _ _).alloc (Nat.le_refl _) _
  have HB := Lib.hid (BoxL.mk' w #[.slice a0 ds.length c0, .slice a1 ps.length c1] 25)
  have HD := Lib.hid hd
  have HP := Lib.hid hp
  have HIN := Lib.hid (right17_in (right19_17 hr))
  have HSM := Lib.hid hsm
  obtain ⟨l0, _⟩ := HB.out.get 0 rfl
  obtain ⟨l1, _⟩ := HB.out.get 1 rfl
  have hbl := HB.out.lt (by simp)
  clear hd hp hr hsm
  obtain ⟨W0, hW0⟩ : ∃ W0, W0 = (w.alloc (.cells #[.slice a0 ds.length c0, .slice a1 ps.length c1] 25)) := ⟨_, rfl⟩
  rw [← hW0] at l0 l1 hbl HZ
  have HWE := Lib.hid hW0.symm
  clear HB hW0
  -- what lies ahead of the loops
  obtain ⟨W1, hW1⟩ : ∃ W1, W1 = ((W0.alloc (.cells #[] 26)).alloc (.cells #[] 3)).alloc (.cells #[.slice (some ⟨W0.heap.size + 1, 0, none⟩) 0 0] 26) := ⟨_, rfl⟩
  have hB1 : Below W0.heap.size W0 W1 := by rw [hW1]; exact (((Below.refl _ W0).alloc (Nat.le_refl _) _).alloc (by simp) _).alloc (by simp; omega) _
  have hs1 : W1.heap.size = W0.heap.size + 3 := by rw [hW1]; simp
  have hO1 : W1.ownsRow W0.heap.size 26 1 (.slice (some ⟨W0.heap.size, 0, none⟩) 0 0) 0 [] := by
    have h := World.ownsRow_made (base := W0.heap.size) W0 #[] 0 (e := 26) (size := 1) (Nat.le_refl _) (by decide) rfl
    rw [hW1]
    exact own_below h (((Below.refl _ _).alloc (Nat.le_refl _) _).alloc (by simp) _)
  have hX1 : LsAt W1 (.slice (some ⟨W0.heap.size + 1 + 1, 0, none⟩) 1 1) (prodL []) := by
    refine ⟨[.slice (some ⟨W0.heap.size + 1, 0, none⟩) 0 0], rfl, ?_, fun j hj => ?_⟩
    · have h := World.ownsRow_lit (base := 0) ((W0.alloc (.cells #[] 26)).alloc (.cells #[] 3)) #[.slice (some ⟨W0.heap.size + 1, 0, none⟩) 0 0] 1 (e := 26) (size := 1) (Nat.zero_le _) (by decide) rfl
      rw [show ((W0.alloc (.cells #[] 26)).alloc (.cells #[] 3)).heap.size = W0.heap.size + 2 by simp, ← hW1] at h
      exact SlAt.of_own h
    · obtain rfl : j = 0 := by simpa [prodL] using hj
      refine ⟨_, rfl, ?_⟩
      show SlAt _ _ _ _ _
      exact ⟨rfl, some ⟨W0.heap.size + 1, 0, none⟩, 0, rfl, Nat.le_refl _, by decide, fun e => rfl, fun hp => by simp [prodL] at hp⟩
  have HB1 := Lib.hid hB1
  have HS1 := Lib.hid hs1
  have HO1 := Lib.hid hO1
  have HX1 := Lib.hid hX1
  have HW1 := Lib.hid hW1.symm
  clear hB1 hO1 hX1 hW1 hs1
  obtain ⟨G0, hG0⟩ : ∃ G0, G0 = W0.heap.size := ⟨_, rfl⟩
  have HG := Lib.hid hG0.symm
  go_enter Tryz.func15, Tryz.ntmps15
  go_upto_region 1 with fail
  rw [HWE.out]
  go_upto_region 3 with fail
  rw [HW1.out]
  have hs1 := HS1.out
  go_wp2
  go_loopw [4, 5] (fun xv s wr => ∃ (k : Nat) (a : Option Addr) (c : Nat), k ≤ ds.length ∧ s = .int .i64 k ∧ xv = .slice a (prodL (ds.take k)).length c ∧ Hid (LsAt wr (.slice a (prodL (ds.take k)).length c) (prodL (ds.take k))) ∧ Hid (Below W1.heap.size W1 wr)) (fun _ s _ => ds.length - (intOf s).toNat)
  case atStart => exact ⟨0, some ⟨W0.heap.size + 1 + 1, 0, none⟩, 1, by omega, rfl, rfl, HX1, Lib.hid (Below.refl _ _)⟩
  case round =>
    obtain ⟨k, a, c, hk, rfl, rfl, HX, HB2⟩ := hrel
    have B0 : Hid (Below W0.heap.size W0 wr) := HB1.out.trans (HB2.out.mono HB1.out.size)
    have BI : Hid (Below w.heap.size w wr) := HZ.out.trans (B0.out.mono HZ.out.size)
    have hXn : (prodL (ds.take k)).length ≤ 12960000 := by
      rw [prodL_card]
      have h : ((prodN (ds.take k) : Nat) : Int) ≤ 12960000 := by
        rw [← prodI_eq]
        refine Int.le_trans (prodI_bnd (ds := ds) k (by
          rw [List.any_eq_false]
          intro d hd
          have := HSM.out d (List.mem_of_mem_take hd)
          simp [big19]; omega)).2 ?_
        rcases (show k = 0 ∨ k = 1 ∨ k = 2 ∨ k = 3 ∨ k = 4 by omega) with rfl | rfl | rfl | rfl | rfl <;> decide
      omega
    have l0' := (B0.out.cell (p := ⟨w.heap.size, 0, none⟩) hbl).trans l0
    by_cases hlt : k < ds.length
    · obtain ⟨b, off, ao, cap, rfl, q1, q2, hq, hc, hrg⟩ := (HD.out.below BI.out).get k hlt
      clear hq
      have j1 : (k : Int) < ds.length := by omega
      have HXS : Hid (prodL (ds.take (k + 1)) = prodStep (prodL (ds.take k)) ds[k]) := by
        show _ = _
        rw [List.take_succ_eq_append_getElem hlt, prodL_snoc]
      have hsmd := HSM.out _ (List.getElem_mem hlt)
      have hvl : ((valsL ds[k]).length : Int) ≤ 60 := by rw [valsL_len]; exact hsmd.2
      have HVG := Lib.hid (vals_get ds[k])
      have HXL : Hid (∀ x ∈ prodL (ds.take k), x.length ≤ 4) := fun x hx => by rw [prodL_len _ (ds.take k) rfl x hx, List.length_take]; omega
      have HYA := Lib.hid (yL_all (prodL (ds.take k)) ds[k])
      have CZ : Hid (∀ W, Below wr.heap.size wr W → Calls Tryz.prog 28 #[.slice ao ds[k].length cap] W fun e w' => e = .returned (.int .i64 ((valsL ds[k]).length : Int)) ∧ Below W.heap.size W w') := fun W h => by
        rw [valsL_len]; exact refSize_c _ _ W (hrg.below h) (by omega)
      have CT : Hid (∀ (n : Nat) W, n < (valsL ds[k]).length → Below wr.heap.size wr W → Calls Tryz.prog 29 #[.slice ao ds[k].length cap, .int .i64 n] W fun e w' => e = .returned (atV (if (n : Int) < 0 then none else atL (norm ds[k]) n)) ∧ W = w') := fun n W hn h => refAt_c _ _ n W (hrg.below h) (by omega) (by omega)
      clear hrg hsmd
      obtain ⟨W2, hW2⟩ : ∃ W2 : World, W2 = wr := ⟨_, rfl⟩
      subst hW2
      generalize prodL (ds.take k) = X at *
      generalize valsL ds[k] = vs at *
      generalize ds[k] = d at *
      have HYN := Lib.hid (yL_next X vs)
      have HYR := Lib.hid (yL_row X vs)
      have HYL : Hid (∀ j n, j < X.length → (yL X vs j n).length ≤ 777600000) := fun j n hj => by
        have h1 := yL_len X vs j n hj
        have h2 : X.length * vs.length ≤ 12960000 * 60 := Nat.mul_le_mul hXn (by omega)
        omega
      have HY0 : Hid (LsApp (W2.alloc (.cells #[] 26)) W2.heap.size (.slice (some ⟨W2.heap.size, 0, none⟩) 0 0) (yL X vs 0 0) []) := LsApp.nil (World.ownsRow_made W2 #[] 0 (Nat.le_refl _) (by decide) rfl)
      have HYB : Hid (Below W2.heap.size W2 (W2.alloc (.cells #[] 26))) := (Below.refl _ _).alloc (Nat.le_refl _) _
      obtain ⟨H2, hH2⟩ : ∃ H2, H2 = W2.heap.size := ⟨_, rfl⟩
      have HH := Lib.hid hH2.symm
      rw [← hH2] at HY0 HYB
      have hb2 : Hid (b < H2 ∧ w.heap.size < H2) := ⟨by rw [hH2]; exact World.block_lt_of_cell? W2 ⟨b, off + k, none⟩ hc, by have := B0.out.size; omega⟩
      clear hH2
      go_wp2
      rw [HH.out]
      go_loopw [6, 7] (fun yv s wr => ∃ (j g cy : Nat) (us : List Value), j ≤ X.length ∧ s = .int .i64 j ∧ yv = .slice (some ⟨g, 0, none⟩) (yL X vs j 0).length cy ∧ Hid (LsApp wr H2 (.slice (some ⟨g, 0, none⟩) (yL X vs j 0).length cy) (yL X vs j 0) us) ∧ Hid (Below H2 W2 wr)) (fun _ s _ => X.length - (intOf s).toNat)
      case atStart => exact ⟨0, H2, 0, [], by omega, rfl, rfl, HY0, HYB⟩
      case round =>
        clear HY0 HYB
        obtain ⟨j, g, cy, us, hj, rfl, rfl, HY, HB3⟩ := hrel
        by_cases hjl : j < X.length
        · have j2 : (j : Int) < X.length := by omega
          go_wp2
          go_loopw [6, 8] (fun yv s wr => ∃ (n g cy : Nat) (us : List Value), n ≤ vs.length ∧ s = .int .i64 n ∧ yv = .slice (some ⟨g, 0, none⟩) (yL X vs j n).length cy ∧ Hid (LsApp wr H2 (.slice (some ⟨g, 0, none⟩) (yL X vs j n).length cy) (yL X vs j n) us) ∧ Hid (Below H2 W2 wr)) (fun _ s _ => vs.length - (intOf s).toNat)
          case atStart => exact ⟨0, g, cy, us, by omega, rfl, rfl, HY, HB3⟩
          case round =>
            clear HY HB3
            obtain ⟨n, g, cy, us, hn, rfl, rfl, HY, HB3⟩ := hrel
            have B3 : Hid (Below W2.heap.size W2 wr) := by show Below _ _ _; rw [HH.out]; exact HB3.out
            have m0 := (HB3.out.cell (p := ⟨w.heap.size, 0, none⟩) hb2.out.2).trans l0'
            have mc := (HB3.out.cell (p := ⟨b, off + k, none⟩) hb2.out.1).trans hc
            have CZ1 := Lib.hid (CZ.out wr B3.out)
            by_cases hnl : n < vs.length
            · have j3 : (n : Int) < vs.length := by omega
              have hwr2 : H2 ≤ wr.heap.size := by have := HB3.out.size; have := HH.out; omega
              have hvg := HVG.out n hnl
              obtain ⟨v, hv⟩ : ∃ v, v = vs[n] := ⟨_, rfl⟩
              rw [← hv] at hvg
              have CT1 : Hid (∀ W, Below W2.heap.size W2 W → Calls Tryz.prog 29 #[.slice ao d.length cap, .int .i64 n] W fun e w' => e = .returned (.tuple #[.int .i64 v, .bool true]) ∧ W = w') := fun W h => by
                have := CT.out n W hnl h
                rwa [hvg] at this
              obtain ⟨bx, ox, ax, cx, hax, _, qx2, hcx, ix⟩ := HX.out.get j hjl
              subst hax
              have hxl := HXL.out _ (List.getElem_mem hjl)
              have HYN2 : Hid (yL X vs j (n + 1) = yL X vs j n ++ [X[j] ++ [v]]) := by
                have h := HYN.out j n hnl
                rw [← hv, List.getD_eq_getElem?_getD, List.getElem?_eq_getElem hjl] at h
                exact h
              have hyl := HYL.out j n hjl
              have HXC : Hid (∀ W, Below W2.heap.size W2 W → W.cell? ⟨bx, ox + j, none⟩ = some (.slice ax X[j].length cx) ∧ SlAt W 1 (.slice ax X[j].length cx) X[j].length (X[j].map (Value.int .i64))) := fun W h => ⟨(h.cell (p := ⟨bx, ox + j, none⟩) qx2).trans hcx, ix.below h⟩
              clear hvg hcx ix hv hnl
              generalize X[j] = x at *
              go_wp2_with (first
                | (go_at_call 28; (with_reducible refine CZ1.out.mono ?_); rintro e W4 ⟨rfl, b4⟩; have B4 := Lib.hid b4; have P4 := Lib.hid (B3.out.trans (b4.mono B3.out.size)); have m0' := (b4.cell (p := ⟨w.heap.size, 0, none⟩) (by have := hb2.out; dsimp only; omega)).trans m0; have mc' := (b4.cell (p := ⟨b, off + k, none⟩) (by have := hb2.out; dsimp only; omega)).trans mc; have P5 := Lib.hid (P4.out.alloc P4.out.size (.cells #[] 3)); obtain ⟨xc5, ix5⟩ := HXC.out _ P5.out; have IX5 := Lib.hid ix5; have HM5 : Hid ((W4.alloc (.cells #[] 3)).ownsRow W4.heap.size 3 1 (.slice (some ⟨W4.heap.size, 0, none⟩) 0 0) 0 []) := World.ownsRow_made W4 #[] 0 (Nat.le_refl _) (by decide) rfl; have hs4 := b4.size; clear b4 ix5)
                | (go_at_call 29; (with_reducible refine (CT1.out _ P4.out).mono ?_); rintro e w' ⟨rfl, rfl⟩)
                | (at_builtin; refine wpList_append_sl rfl (.tmp 51) (.tmp 55) 26 rfl W4.heap.size 3 t0 (.int .i64 0) 1 8 Tryz.underlying26 ht hz0 hz1 hz2 rfl (by decide) _ 0 [] rfl HM5.out _ x.length _ rfl IX5.out (one_ints x) (by omega) (by simp) ?_; intro v6 w6 o6 b6 _; rw [Nat.zero_add, List.nil_append] at o6; obtain ⟨a6, c6, rfl, _⟩ := (SlAt.of_own o6).shape; have O6 := Lib.hid o6; have B6 : Hid (Below W4.heap.size W4 w6) := (((Below.refl _ W4).alloc (Nat.le_refl _) _).trans b6); have hs6 := B6.out.size; clear o6 b6)
                | (at_builtin; refine wpList_append1L rfl (.tmp 58) (.tmp 60) 26 rfl W4.heap.size 3 t0 (.int .i64 0) 8 Tryz.underlying26 ht hz0 hz1 hz2 rfl _ _ _ rfl O6.out _ rfl rfl (by omega) (by omega) ?_; intro g8 c8 w8 o8 b8 k8 q8; have O8 := Lib.hid o8; have B8 := Lib.hid (B6.out.trans b8); have HY8 := Lib.hid ((HY.out.below B4.out).below B8.out); have hs8 := B8.out.size; clear o8 b8 k8 q8)
                | (at_builtin; refine wpList_append1L rfl (.tmp 57) (.tmp 62) 32 rfl H2 26 t1 (.slice none 0 0) 24 Tryz.underlying32 hti hy0 hy1 hy2 rfl _ _ _ rfl HY8.out.2.1 _ rfl rfl (by omega) (by omega) ?_; intro g9 c9 w9 o9 b9 k9 q9))
              have hyn := HYN2.out
              refine ⟨⟨n + 1, g9, c9, us ++ [.slice (some ⟨g8, 0, none⟩) (x.length + 1) c8], by omega, by go_num, by rw [hyn, List.length_append]; rfl, ?_, Lib.hid ((HB3.out.trans (B4.out.mono hwr2)).trans ((B8.out.mono (by omega)).trans b9))⟩, by simp [intOf]; omega⟩
              have hu : IsAt w8 (.slice (some ⟨g8, 0, none⟩) (x.length + 1) c8) (x ++ [v]) := by
                show SlAt _ _ _ _ _
                rw [List.length_append, List.map_append]
                exact SlAt.of_own O8.out
              have hpush := LsApp.push HY8.out hu (fun _ => apart_made HY.out.2.1 (fun b' e => by
                have h1 : some g8 = some b' := e
                injection h1 with h1
                have := (own_lt O8.out (b := g8) rfl).2
                omega)) o9 k9 b9.size q9
              rw [hyn, List.length_append]
              exact Lib.hid hpush
            · obtain rfl : n = vs.length := by omega
              have hyr := HYR.out j hjl
              go_wp2_with (go_at_call 28; (with_reducible refine CZ1.out.mono ?_); rintro e W4 ⟨rfl, b4⟩; have B4 := Lib.hid b4; clear b4)
              refine ⟨⟨j + 1, g, cy, us, by omega, by go_num, by rw [← hyr], ?_, Lib.hid (HB3.out.trans (B4.out.mono (by have := HB3.out.size; have := HH.out; omega)))⟩, by simp [intOf]; omega⟩
              rw [← hyr]
              exact Lib.hid (HY.out.below B4.out)
        · obtain rfl : j = X.length := by omega
          have hya := HYA.out
          have hxs := HXS.out
          have HY2 := Lib.hid HY.out.at
          clear HY HYN HYR HYL
          go_wp2
          refine ⟨⟨k + 1, some ⟨g, 0, none⟩, cy, by omega, by go_num, by rw [hxs, ← hya], ?_, Lib.hid (HB2.out.trans ?_)⟩, by simp [intOf]; omega⟩
          · rw [hxs, ← hya]; exact HY2
          · have := HB3.out
            rw [← HH.out] at this
            exact this.mono HB2.out.size
    · obtain rfl : k = ds.length := by omega
      rw [List.take_length] at HX hXn ⊢
      have hX200 : (prodL ds).length ≤ 200 := by
        rw [prodL_card]
        have := prodI_eq ds
        omega
      have HHI : Hid (∀ x ∈ prodL ds, HoldIn ps ds x) := fun x hx => by
        have hh := (prodL_mem _ ds rfl x).1 hx
        have hxl := hh.1
        rw [List.length_map] at hxl
        exact ⟨HIN.out.fine, by omega, has_bnd hh⟩
      have hpl : ps.length ≤ 4096 := by have := HIN.out.P; omega
      obtain ⟨W4, hW4⟩ : ∃ W4 : World, W4 = wr := ⟨_, rfl⟩
      subst hW4
      have hO4 := own_below HO1.out HB2.out
      have HEM := Lib.hid (emptyBlk hO4)
      have HA4 : Hid (LsApp W4 W0.heap.size (.slice (some ⟨W0.heap.size, 0, none⟩) 0 0) [] []) := LsApp.nil hO4
      have hs4 : W0.heap.size < W4.heap.size := (own_lt hO4 (b := W0.heap.size) rfl).1
      have HEV : Hid (everyL ds ps = (prodL ds).filter (allHold ps)) := by show _ = _; rfl
      clear hO4 hXn hlt hk
      have hbl0 := B0.out.size
      generalize prodL ds = X at *
      go_wp2
      go_loopw [3, 12] (fun ov s wr => ∃ (k g cy : Nat) (us : List Value), k ≤ X.length ∧ s = .int .i64 k ∧ ov = .slice (some ⟨g, 0, none⟩) ((X.take k).filter (allHold ps)).length cy ∧ Hid (LsApp wr W0.heap.size (.slice (some ⟨g, 0, none⟩) ((X.take k).filter (allHold ps)).length cy) ((X.take k).filter (allHold ps)) us) ∧ Hid (g = W0.heap.size ∨ W4.heap.size ≤ g) ∧ Hid (∀ b, b < W4.heap.size → b ≠ W0.heap.size → wr.heap[b]? = W4.heap[b]?) ∧ Hid (W4.heap.size ≤ wr.heap.size ∧ Below W0.heap.size W0 wr)) (fun _ s _ => X.length - (intOf s).toNat)
      case atStart => exact ⟨0, W0.heap.size, 0, [], by omega, rfl, rfl, HA4, Lib.hid (.inl rfl), Lib.hid (fun _ _ _ => rfl), Lib.hid ⟨Nat.le_refl _, B0.out⟩⟩
      case round =>
        clear HA4
        obtain ⟨k, g, cy, us, hk, rfl, rfl, HA, HG2, HST, HBB⟩ := hrel
        have BI2 : Hid (Below w.heap.size w wr) := HZ.out.trans (HBB.out.2.mono HZ.out.size)
        have m1 := (HBB.out.2.cell (p := ⟨w.heap.size, 1, none⟩) hbl).trans l1
        by_cases hlt : k < X.length
        · have hxw := HX.out.stay HEM.out HBB.out.1 HST.out
          have hx4 := HX.out
          obtain ⟨bx, ox, ax, cx, hax, _, qx2, hcx, ix⟩ := hxw.get k hlt
          subst hax
          obtain ⟨_, _, ax4, cx4, hax4, _, _, hcx4, ix4⟩ := hx4.get k hlt
          have j1 : (k : Int) < X.length := by omega
          simp only [Option.some.injEq, Addr.mk.injEq, and_true] at hax4
          obtain ⟨rfl, rfl⟩ := hax4
          have hxr : bx ≠ W0.heap.size := fun e => by
            have := HEM.out (ox + k)
            rw [← e, hcx4] at this
            cases this
          have hblt : bx < W4.heap.size := World.block_lt_of_cell? W4 ⟨bx, ox + k, none⟩ hcx4
          have hsame := (World.cell?_of_block (a := ⟨bx, ox + k, none⟩) (HST.out bx hblt hxr)).symm.trans hcx
          rw [hcx4] at hsame
          simp only [Option.some.injEq, Value.slice.injEq] at hsame
          obtain ⟨rfl, _, rfl⟩ := hsame
          have HAP : Hid (X[k] ≠ [] → Apart (.slice ax4 X[k].length cx4) (.slice (some ⟨g, 0, none⟩) ((X.take k).filter (allHold ps)).length cy)) := fun hne b e e' => by
            have hp : 0 < X[k].length * 1 := by have := List.length_pos_iff.2 hne; omega
            have h1 : g = b := by simpa [Value.ownBlock] using e'
            subst h1
            rcases HG2.out with h2 | h2
            · exact SlAt.notEmpty ix4 hp HEM.out (h2 ▸ e)
            · have := IsAt.blk ix4 hne g e; omega
          have HI1 := HHI.out _ (List.getElem_mem hlt)
          have HF := Lib.hid (filter_snoc (f := allHold ps) hlt)
          have CH0 : ∀ q : QG wr, Calls Tryz.prog 23 #[.slice a1 ps.length c1, .slice ax4 X[k].length cx4] q.1 fun e w' => e = .returned (.bool (allHold ps X[k])) ∧ Below q.1.heap.size q.1 w' := fun q => refFixHolds_c _ _ ps ds X[k] q.1 (ix.below q.2) ((HP.out.below BI2.out).below q.2) HI1 hpl
          have HIX := Lib.hid ix
          have HCX := Lib.hid hcx
          have hle4 := HBB.out.1
          have y1 := qb_cell hcx
          have y2 := qb_cell m1
          clear hxw hx4 ix ix4 hcx4 hcx HI1 qx2
          generalize X[k] = x at *
          cases hh : allHold ps x with
          | true =>
            rw [hh] at CH0 HF
            have CH := Lib.hid CH0
            clear CH0 hh
            go_upto_region 21 with fail
            refine wp_region_below (by kernel_rfl) (by kernel_rfl) ?_
            repeat (go_big_quiet_step ((go_at_call 23; with_reducible exact qb_call _ (CH.out _))))
            refine wpQuiet_nil ?_
            intro w5 hw5
            have B5 := Lib.hid hw5.below
            have hs5 := hw5.below.size
            have hx5 := B5.out.cell (p := ⟨bx, ox + k, none⟩) (by dsimp only; omega)
            have HA5 := Lib.hid (HA.out.below B5.out)
            have hx5' : w5.cell? ⟨bx, ox + k, none⟩ = some (.slice ax4 x.length cx4) := hx5.trans HCX.out
            have hown5 := HA5.out.2.1
            have hbw5 : W0.heap.size ≤ w5.heap.size := by omega
            have hf := HF.out
            simp only [if_true] at hf
            have hfl : ((X.take k).filter (allHold ps)).length ≤ 200 := Nat.le_trans (List.length_filter_le _ _) (by rw [List.length_take]; omega)
            have HBB5 := HBB.out.2.trans (B5.out.mono (by omega))
            have HBB6 := Lib.hid HBB5
            clear y1 y2 hx5 HBB5
            go_wp2_with (at_builtin; refine wpList_append1L rfl (.tmp 78) (.tmp 83) 32 rfl W0.heap.size 26 t1 (.slice none 0 0) 24 Tryz.underlying32 hti hy0 hy1 hy2 rfl _ _ _ rfl hown5 _ rfl rfl (by omega) hbw5 ?_; intro g9 c9 w9 o9 b9 k9 q9)
            have hpush := LsApp.push HA5.out (HIX.out.below B5.out) HAP.out o9 k9 b9.size q9
            refine ⟨⟨k + 1, g9, c9, us ++ [.slice ax4 x.length cx4], by omega, by go_num, by rw [hf, List.length_append]; rfl, ?_, ?_, Lib.hid (fun b h1 h2 => ?_), Lib.hid ⟨by have := b9.size; omega, HBB6.out.trans b9⟩⟩, by simp [intOf]; omega⟩
            · rw [hf, List.length_append]; exact Lib.hid hpush
            · show g9 = W0.heap.size ∨ W4.heap.size ≤ g9
              rcases q9 with e | e
              · have e2 : some g = some g9 := e
                injection e2 with e2
                subst e2
                exact HG2.out
              · right; omega
            · refine ((k9 b (by omega) (fun e => ?_)).trans (B5.out.block b (by omega))).trans (HST.out b h1 h2)
              have e2 : some g = some b := e
              injection e2 with e2
              subst e2
              rcases HG2.out with h | h <;> omega
          | false =>
            rw [hh] at CH0 HF
            have CH := Lib.hid CH0
            clear CH0 hh
            go_upto_region 21 with fail
            refine wp_region_below (by kernel_rfl) (by kernel_rfl) ?_
            repeat (go_big_quiet_step ((go_at_call 23; with_reducible exact qb_call _ (CH.out _))))
            refine wpQuiet_nil ?_
            intro w5 hw5
            have B5 := Lib.hid hw5.below
            have hf := HF.out
            simp only [Bool.false_eq_true, if_false, List.append_nil] at hf
            clear y1 y2
            go_wp2
            refine ⟨⟨k + 1, g, cy, us, by omega, by go_num, by rw [hf], ?_, HG2, Lib.hid (fun b h1 h2 => (B5.out.block b (by omega)).trans (HST.out b h1 h2)), Lib.hid ⟨by have := B5.out.size; omega, HBB.out.2.trans (B5.out.mono (by omega))⟩⟩, by simp [intOf]; omega⟩
            rw [hf]; exact Lib.hid (HA.out.below B5.out)
        · obtain rfl : k = X.length := by omega
          rw [List.take_length] at HA ⊢
          have HAT := Lib.hid HA.out.at
          go_wp2
          go_ret
          unfold RetLs
          rw [HEV.out]
          exact ⟨_, _, rfl, HAT.out, BI2.out⟩
end Go.Proofs.YtaekdgikgbdnnaaGreat
namespace Go.Proofs.YtaekdgikgbdnnaaGreat

theorem fine_lin {p : PL} {ds : Ds} (h : p.Fine ds) : p.Lin ds.length := ⟨h.good, fun hk => (h.lin hk).2.1⟩
theorem nodesN_small {ds : Ds} (h : prodI ds ≤ 200) : nodesN ds ≤ 10000 := by
  have := prodI_eq ds
  unfold nodesN
  split <;> omega
theorem right19_ok {ds : Ds} {ps : List PL} (h : right19 ds ps = true) : FixIn ds ps ∧ fixChk ds.length ps = 0 ∧ ds.length ≤ 4 ∧ prodI ds ≤ 200 ∧ (∀ d ∈ ds, d.length ≤ 4 ∧ sizeL (norm d) ≤ 60) := by
  have h1 := h
  unfold right19 at h1
  rw [Bool.and_eq_true, Bool.not_eq_true', decide_eq_true_eq] at h1
  obtain ⟨_, a, b, c, _⟩ := many19_17 h1.1
  exact ⟨right17_in (right19_17 h), h1.2, a, b, c⟩
theorem every_len {ds : Ds} {ps : List PL} (h : prodI ds ≤ 200) : (everyL ds ps).length ≤ 200 := by
  have h1 : (everyL ds ps).length ≤ (prodL ds).length := List.length_filter_le _ _
  rw [prodL_card] at h1
  have := prodI_eq ds
  omega
/-- all answers -/
noncomputable def allF (ds : Ds) (ps : List PL) (o : SOpt) : List (List Int) := (find ps (allV ds.length) o 10000 [ds]).1
theorem allF_ok {ds : Ds} {ps : List PL} {o : SOpt} (h : right19 ds ps = true) (ho : o.ord = 0 ∨ o.ord = 1) (hb : o.br = 0 ∨ o.br = 1) :
    (find ps (allV ds.length) o 10000 [ds]).2 = false ∧ (∀ x, x ∈ allF ds ps o ↔ x ∈ everyL ds ps) ∧ (allF ds ps o).Nodup ∧ (allF ds ps o).length = (everyL ds ps).length ∧ (allF ds ps o).length ≤ 200 := by
  obtain ⟨hin, _, _, hpr, _⟩ := right19_ok h
  have hg : ∀ p ∈ ps, p.Lin ds.length := fun p hp => fine_lin (hin.fine p hp)
  obtain ⟨a1, a2, a3⟩ := find_all (o := o) hg ho hb 10000 [ds] (fun E hE => by rw [List.mem_singleton.1 hE]) (by simpa using nodesN_small hpr)
  have hm : ∀ x, x ∈ allF ds ps o ↔ x ∈ everyL ds ps := fun x => by
    rw [every_mem]
    unfold allF
    rw [a2 x]
    simp
  have hn : (allF ds ps o).Nodup := a3 (List.pairwise_singleton _ _)
  have hl : (allF ds ps o).length = (everyL ds ps).length := Nat.le_antisymm (nodup_len_le _ _ hn (fun x hx => (hm x).1 hx)) (nodup_len_le _ _ (every_nodup ds ps) (fun x hx => (hm x).2 hx))
  exact ⟨a1, hm, hn, hl, by rw [hl]; exact every_len hpr⟩
/-- what Solve comes to, of so many -/
theorem findR_all {ds : Ds} {ps : List PL} {o : SOpt} (h : right19 ds ps = true) (ho : o.ord = 0 ∨ o.ord = 1) (hb : o.br = 0 ∨ o.br = 1) (m : Nat) :
    (findR ps (allV ds.length) o m 10000 [ds]).2.2 = false ∧ (findR ps (allV ds.length) o m 10000 [ds]).1 = (allF ds ps o).take m := by
  obtain ⟨a1, _⟩ := allF_ok h ho hb
  obtain ⟨b1, b2⟩ := findR_M ps (allV ds.length) o 10000 m [ds]
  obtain ⟨c1, c2, c3⟩ := findM_eq ps (allV ds.length) o 10000 m [ds]
  refine ⟨?_, by rw [b1, c1]; rfl⟩
  rw [b2]
  rcases Nat.lt_or_ge (find ps (allV ds.length) o 10000 [ds]).1.length m with hl | hl
  · rw [c3 hl, a1]
  · exact c2 hl
theorem allF_order {ds : Ds} {ps : List PL} {o : SOpt} (h : right19 ds ps = true) (ho : o.ord = 0 ∨ o.ord = 1) (hb : o.br = 0 ∨ o.br = 1) (hs : o.sel = 0) : (allF ds ps o).Pairwise (inOrder o.ord) := by
  obtain ⟨hin, _, _, hpr, _⟩ := right19_ok h
  exact find_order (fun p hp => fine_lin (hin.fine p hp)) ho hb hs 10000 [ds] (fun E hE => by rw [List.mem_singleton.1 hE]) (by simpa using nodesN_small hpr) (List.pairwise_singleton _ _)
theorem allF_rise {ds : Ds} {ps : List PL} {o : SOpt} (h : right19 ds ps = true) (ho : o.ord = 0) (hb : o.br = 0 ∨ o.br = 1) (hs : o.sel = 0) : allF ds ps o = everyL ds ps := by
  have h1 := allF_order h (.inl ho) hb hs
  refine order_unique ?_ (every_order ds ps) (allF_ok h (.inl ho) hb).2.1
  exact h1.imp (fun hxy => by unfold inOrder at hxy; rw [ho, if_neg (by decide)] at hxy; exact hxy)
theorem allF_fall {ds : Ds} {ps : List PL} {o : SOpt} (h : right19 ds ps = true) (ho : o.ord = 1) (hb : o.br = 0 ∨ o.br = 1) (hs : o.sel = 0) : allF ds ps o = (everyL ds ps).reverse := by
  have h1 := allF_order h (.inr ho) hb hs
  have h2 : (allF ds ps o).reverse = everyL ds ps := by
    refine order_unique ?_ (every_order ds ps) (fun x => by rw [List.mem_reverse]; exact (allF_ok h (.inr ho) hb).2.1 x)
    rw [List.pairwise_reverse]
    exact h1.imp (fun hxy => by unfold inOrder at hxy; rw [ho, if_pos rfl] at hxy; exact hxy)
  rw [← h2, List.reverse_reverse]
theorem allV_in (n : Nat) : (∀ v ∈ allV n, 0 ≤ v ∧ v.toNat < n) := fun v hv => by
  unfold allV at hv
  obtain ⟨j, hj, rfl⟩ := List.mem_map.1 hv
  have := List.mem_range.1 hj
  exact ⟨by simp, by simpa using this⟩
end Go.Proofs.YtaekdgikgbdnnaaGreat
namespace Go.Proofs.YtaekdgikgbdnnaaGreat
open Go.RowKit

theorem solveAllN_c (vds vps va vw : Value) (o : SOpt) (ds : Ds) (ps : List PL) (most : Nat) (w : World) (hd : DsAt w vds ds) (hp : PsAt w vps ps) (hv : IsAt w va (allV ds.length)) (hw : IsAt w vw o.ws)
    (hr : right19 ds ps = true) (hlc : labChk o.sel o.ord o.br o.ws.length = 0) (h1 : 1 ≤ most) (h2 : most ≤ 1000) :
    Calls Tryz.prog 13 #[vds, vps, va, .agg #[.int .i64 o.sel, .int .i64 o.ord, .int .i64 o.br, vw], .int .i64 (most : Int), .int .i64 10000] w fun e w' =>
      ∃ ao co, e = .returned (.tuple #[.slice ao ((allF ds ps o).take most).length co, .int .i64 0]) ∧ LsFrom w.heap.size w' (.slice ao ((allF ds ps o).take most).length co) ((allF ds ps o).take most) ∧ Below w.heap.size w w' := by
  obtain ⟨hin, hfc, h4, _, _⟩ := right19_ok hr
  obtain ⟨_, hor, hbr⟩ := labChk_sound hlc
  obtain ⟨e1, e2⟩ := findR_all hr hor hbr most (o := o)
  refine (solve_ok vds vps va vw o ds ps (allV ds.length) most 10000 w hd hp hv hw hin hlc hfc (by rw [allV_len]; omega) (allV_in _) h1 h2 (by decide) (by decide)).mono fun e w' ⟨hb, hh⟩ => ?_
  rcases hh with ⟨h, _⟩ | ⟨_, ao, co, he, hl⟩
  · rw [e1] at h; cases h
  · rw [e2] at he hl
    exact ⟨ao, co, he, hl, hb⟩
theorem solveAll_c (vds vps va vw : Value) (o : SOpt) (ds : Ds) (ps : List PL) (most : Nat) (w : World) (hd : DsAt w vds ds) (hp : PsAt w vps ps) (hv : IsAt w va (allV ds.length)) (hw : IsAt w vw o.ws)
    (hr : right19 ds ps = true) (hlc : labChk o.sel o.ord o.br o.ws.length = 0) (h1 : 1 ≤ most) (h2 : most ≤ 1000) :
    Calls Tryz.prog 13 #[vds, vps, va, .agg #[.int .i64 o.sel, .int .i64 o.ord, .int .i64 o.br, vw], .int .i64 (most : Int), .int .i64 10000] w fun e w' =>
      ∃ ao co, e = .returned (.tuple #[.slice ao ((allF ds ps o).take most).length co, .int .i64 0]) ∧ LsAt w' (.slice ao ((allF ds ps o).take most).length co) ((allF ds ps o).take most) ∧ Below w.heap.size w w' :=
  (solveAllN_c vds vps va vw o ds ps most w hd hp hv hw hr hlc h1 h2).mono fun _ _ ⟨ao, co, he, hl, hb⟩ => ⟨ao, co, he, hl.at, hb⟩
theorem allF_take {ds : Ds} {ps : List PL} {o : SOpt} (h : right19 ds ps = true) (hlc : labChk o.sel o.ord o.br o.ws.length = 0) : (allF ds ps o).take 1000 = allF ds ps o := by
  obtain ⟨_, hor, hbr⟩ := labChk_sound hlc
  have := (allF_ok h hor hbr).2.2.2.2
  exact List.take_of_length_le (by omega)
theorem optBad_c (sel ord br : Int) (w : World) (h : labChk sel ord br 0 = 190) : Calls Tryz.prog 12 #[.agg #[.int .i64 sel, .int .i64 ord, .int .i64 br, .slice none 0 0]] w fun e w' => e = .returned (.int .i64 190) ∧ Below w.heap.size w w' := by
  have := labCheck_c sel ord br none 0 0 w
  rwa [h] at this

set_option maxRecDepth 1000000 in
set_option maxHeartbeats 6400000 in
theorem labelOptions_any (vds vps v1 v2 : Value) (o p : SOpt) (ds : Ds) (ps : List PL) (w : World) (hd : DsAt w vds ds) (hp : PsAt w vps ps) (hw1 : IsAt w v1 o.ws) (hw2 : IsAt w v2 p.ws) :
    Calls Tryz.prog 3 #[.agg #[vds, vps], .agg #[.int .i64 o.sel, .int .i64 o.ord, .int .i64 o.br, v1], .agg #[.int .i64 p.sel, .int .i64 p.ord, .int .i64 p.br, v2]] w fun e w' => e = .returned (.bool true) ∧ Below w.heap.size w w' := by
  obtain ⟨a0, c0, rfl, _⟩ := hd.shape
  obtain ⟨a1, c1, rfl, _⟩ := hp.shape
  obtain ⟨a2, c2, rfl, _⟩ := hw1.shape'
  obtain ⟨a3, c3, rfl, _⟩ := hw2.shape'
  obtain ⟨W0, hW0⟩ : ∃ W0, W0 = ((w.alloc (.cells #[.slice a0 ds.length c0, .slice a1 ps.length c1] 25)).alloc (.cells #[.int .i64 o.sel, .int .i64 o.ord, .int .i64 o.br, .slice a2 o.ws.length c2] 28)).alloc (.cells #[.int .i64 p.sel, .int .i64 p.ord, .int .i64 p.br, .slice a3 p.ws.length c3] 28) := ⟨_, rfl⟩
  have hb0 : Below w.heap.size w W0 := by rw [hW0]; exact (((Below.refl _ w).alloc (Nat.le_refl _) _).alloc (by simp) _).alloc (by simp; omega) _
  have hs0 : W0.heap.size = w.heap.size + 3 := by rw [hW0]; simp
  have hL1 : BoxL W0 w.heap.size [.slice a0 ds.length c0, .slice a1 ps.length c1] := by
    rw [hW0]
    exact (BoxL.mk' w #[.slice a0 ds.length c0, .slice a1 ps.length c1] _).below (((Below.refl _ _).alloc (Nat.le_refl _) _).alloc (by simp) _) (by simp)
  have hL2 : BoxL W0 (w.heap.size + 1) [.int .i64 o.sel, .int .i64 o.ord, .int .i64 o.br, .slice a2 o.ws.length c2] := by
    have h := BoxL.mk' (w.alloc (.cells #[.slice a0 ds.length c0, .slice a1 ps.length c1] 25)) #[.int .i64 o.sel, .int .i64 o.ord, .int .i64 o.br, .slice a2 o.ws.length c2] 28
    rw [show (w.alloc (.cells #[.slice a0 ds.length c0, .slice a1 ps.length c1] 25)).heap.size = w.heap.size + 1 by simp] at h
    rw [hW0]
    exact h.below ((Below.refl _ _).alloc (Nat.le_refl _) _) (by simp)
  have hL3 : BoxL W0 (w.heap.size + 1 + 1) [.int .i64 p.sel, .int .i64 p.ord, .int .i64 p.br, .slice a3 p.ws.length c3] := by
    have h := BoxL.mk' ((w.alloc (.cells #[.slice a0 ds.length c0, .slice a1 ps.length c1] 25)).alloc (.cells #[.int .i64 o.sel, .int .i64 o.ord, .int .i64 o.br, .slice a2 o.ws.length c2] 28)) #[.int .i64 p.sel, .int .i64 p.ord, .int .i64 p.br, .slice a3 p.ws.length c3] 28
    rw [show ((w.alloc (.cells #[.slice a0 ds.length c0, .slice a1 ps.length c1] 25)).alloc (.cells #[.int .i64 o.sel, .int .i64 o.ord, .int .i64 o.br, .slice a2 o.ws.length c2] 28)).heap.size = w.heap.size + 1 + 1 by simp] at h
    rw [hW0]; exact h
  have HB0 := Lib.hid hb0
  have HL1 := Lib.hid hL1
  have HL2 := Lib.hid hL2
  have HL3 := Lib.hid hL3
  have HW := Lib.hid hW0.symm
  have HD := Lib.hid hd
  have HP := Lib.hid hp
  have HO := Lib.hid hw1
  have HQ := Lib.hid hw2
  clear hb0 hL1 hL2 hL3 hW0 hd hp hw1 hw2
  have HC : Hid (∀ W, Below W0.heap.size W0 W → W.cell? ⟨w.heap.size, 0, none⟩ = some (.slice a0 ds.length c0) ∧ W.cell? ⟨w.heap.size, 1, none⟩ = some (.slice a1 ps.length c1) ∧
      W.cell? ⟨w.heap.size + 1, 0, none⟩ = some (.int .i64 o.sel) ∧ W.cell? ⟨w.heap.size + 1, 1, none⟩ = some (.int .i64 o.ord) ∧ W.cell? ⟨w.heap.size + 1, 2, none⟩ = some (.int .i64 o.br) ∧ W.cell? ⟨w.heap.size + 1, 3, none⟩ = some (.slice a2 o.ws.length c2) ∧
      W.cell? ⟨w.heap.size + 1 + 1, 0, none⟩ = some (.int .i64 p.sel) ∧ W.cell? ⟨w.heap.size + 1 + 1, 1, none⟩ = some (.int .i64 p.ord) ∧ W.cell? ⟨w.heap.size + 1 + 1, 2, none⟩ = some (.int .i64 p.br) ∧ W.cell? ⟨w.heap.size + 1 + 1, 3, none⟩ = some (.slice a3 p.ws.length c3)) := fun W h =>
    have e1 := HL1.out.below h (by omega)
    have e2 := HL2.out.below h (by omega)
    have e3 := HL3.out.below h (by omega)
    ⟨(e1.get 0 rfl).1, (e1.get 1 rfl).1, (e2.get 0 rfl).1, (e2.get 1 rfl).1, (e2.get 2 rfl).1, (e2.get 3 rfl).1, (e3.get 0 rfl).1, (e3.get 1 rfl).1, (e3.get 2 rfl).1, (e3.get 3 rfl).1⟩
  obtain ⟨z0, z1, z2, z3, z4, z5, z6, z7, z8, z9⟩ := HC.out W0 (Below.refl _ _)
  have CR := Lib.hid (right19_c _ _ ds ps W0 (HD.out.below HB0.out) (HP.out.below HB0.out))
  have CBAD : Hid (∀ W, Calls Tryz.prog 12 #[.agg #[.int .i64 5, .int .i64 0, .int .i64 0, .slice none 0 0]] W fun e w' => e = .returned (.int .i64 190) ∧ Below W.heap.size W w') := fun W => optBad_c 5 0 0 W rfl
  cases hr : right19 ds ps with
  | false =>
    rw [hr] at CR
    clear hr
    go_enter Tryz.func3, Tryz.ntmps3
    go_upto_region 1 with fail
    rw [HW.out]
    go_wp2_with (first
      | (go_at_call 10; (with_reducible refine CR.out.mono ?_); rintro e W1 ⟨rfl, bb⟩; have B1 := Lib.hid (HB0.out.trans (bb.mono HB0.out.size)); clear bb)
      | (go_at_call 12; (with_reducible refine (CBAD.out _).mono ?_); rintro e W2 ⟨rfl, bb⟩; have B2 := Lib.hid (B1.out.trans (bb.mono B1.out.size)); clear bb))
    go_ret
    exact ⟨rfl, B2.out⟩
  | true =>
    rw [hr] at CR
    have HR := Lib.hid hr
    clear hr
    have CK1 := Lib.hid (refLabCheck_c o.sel o.ord o.br a2 o.ws.length c2)
    have CK2 := Lib.hid (refLabCheck_c p.sel p.ord p.br a3 p.ws.length c3)
    by_cases h1 : 100 < o.ws.length
    · go_enter Tryz.func3, Tryz.ntmps3
      go_upto_region 1 with fail
      rw [HW.out]
      go_wp2_with (first
        | (go_at_call 10; (with_reducible refine CR.out.mono ?_); rintro e W1 ⟨rfl, bb⟩; have P1 := Lib.hid bb; obtain ⟨y0, y1, y2, y3, y4, y5, y6, y7, y8, y9⟩ := HC.out _ bb; clear bb)
        | (go_at_call 12; (with_reducible refine (CBAD.out _).mono ?_); rintro e WB ⟨rfl, bb⟩; have PB := Lib.hid (HB0.out.trans ((P1.out.trans (bb.mono P1.out.size)).mono HB0.out.size)); clear bb))
      go_ret
      exact ⟨rfl, PB.out⟩
    by_cases h2 : 100 < p.ws.length
    · go_enter Tryz.func3, Tryz.ntmps3
      go_upto_region 1 with fail
      rw [HW.out]
      go_wp2_with (first
        | (go_at_call 10; (with_reducible refine CR.out.mono ?_); rintro e W1 ⟨rfl, bb⟩; have P1 := Lib.hid bb; obtain ⟨y0, y1, y2, y3, y4, y5, y6, y7, y8, y9⟩ := HC.out _ bb; clear bb)
        | (go_at_call 12; (with_reducible refine (CBAD.out _).mono ?_); rintro e WB ⟨rfl, bb⟩; have PB := Lib.hid (HB0.out.trans ((P1.out.trans (bb.mono P1.out.size)).mono HB0.out.size)); clear bb))
      go_ret
      exact ⟨rfl, PB.out⟩
    cases hk1 : decide (labChk o.sel o.ord o.br o.ws.length = 0) with
    | false =>
      have hk1' : (labChk o.sel o.ord o.br o.ws.length != 0) = true := by simpa using hk1
      clear hk1
      generalize labChk o.sel o.ord o.br o.ws.length = kk at *
      go_enter Tryz.func3, Tryz.ntmps3
      go_upto_region 1 with fail
      rw [HW.out]
      go_wp2_with (first
        | (go_at_call 10; (with_reducible refine CR.out.mono ?_); rintro e W1 ⟨rfl, bb⟩; have P1 := Lib.hid bb; obtain ⟨y0, y1, y2, y3, y4, y5, y6, y7, y8, y9⟩ := HC.out _ bb; clear bb)
        | (go_at_call 11; (with_reducible refine (CK1.out _).mono ?_); rintro e W2 ⟨rfl, bb⟩; have P2 := Lib.hid (P1.out.trans (bb.mono P1.out.size)); obtain ⟨x0, x1, x2, x3, x4, x5, x6, x7, x8, x9⟩ := HC.out _ P2.out; clear bb)
        | (go_at_call 12; (with_reducible refine (CBAD.out _).mono ?_); rintro e WB ⟨rfl, bb⟩; have PB := Lib.hid (HB0.out.trans ((P2.out.trans (bb.mono P2.out.size)).mono HB0.out.size)); clear bb))
      go_ret
      exact ⟨rfl, PB.out⟩
    | true =>
      have hk1 := of_decide_eq_true hk1
      have HK1 := Lib.hid hk1
      rw [hk1] at CK1
      clear hk1
      cases hk2 : decide (labChk p.sel p.ord p.br p.ws.length = 0) with
      | false =>
        have hk2' : (labChk p.sel p.ord p.br p.ws.length != 0) = true := by simpa using hk2
        clear hk2
        generalize labChk p.sel p.ord p.br p.ws.length = kk at *
        go_enter Tryz.func3, Tryz.ntmps3
        go_upto_region 1 with fail
        rw [HW.out]
        go_wp2_with (first
          | (go_at_call 10; (with_reducible refine CR.out.mono ?_); rintro e W1 ⟨rfl, bb⟩; have P1 := Lib.hid bb; obtain ⟨y0, y1, y2, y3, y4, y5, y6, y7, y8, y9⟩ := HC.out _ bb; clear bb)
          | (go_at_call 11; (with_reducible refine (CK1.out _).mono ?_); rintro e W2 ⟨rfl, bb⟩; have P2 := Lib.hid (P1.out.trans (bb.mono P1.out.size)); obtain ⟨x0, x1, x2, x3, x4, x5, x6, x7, x8, x9⟩ := HC.out _ P2.out; clear bb)
          | (go_at_call 11; (with_reducible refine (CK2.out _).mono ?_); rintro e W3 ⟨rfl, bb⟩; have P3 := Lib.hid (P2.out.trans (bb.mono P2.out.size)); obtain ⟨u0, u1, u2, u3, u4, u5, u6, u7, u8, u9⟩ := HC.out _ P3.out; clear bb)
          | (go_at_call 12; (with_reducible refine (CBAD.out _).mono ?_); rintro e WB ⟨rfl, bb⟩; have PB := Lib.hid (HB0.out.trans ((P3.out.trans (bb.mono P3.out.size)).mono HB0.out.size)); clear bb))
        go_ret
        exact ⟨rfl, PB.out⟩
      | true =>
        have hk2 := of_decide_eq_true hk2
        have HK2 := Lib.hid hk2
        rw [hk2] at CK2
        clear hk2
        go_enter Tryz.func3, Tryz.ntmps3
        go_upto_region 1 with fail
        rw [HW.out]
        go_upto_region 3 with (first
          | (go_at_call 10; (with_reducible refine CR.out.mono ?_); rintro e W1 ⟨rfl, bb⟩; have P1 := Lib.hid bb; obtain ⟨y0, y1, y2, y3, y4, y5, y6, y7, y8, y9⟩ := HC.out _ bb; clear bb)
          | (go_at_call 11; (with_reducible refine (CK1.out _).mono ?_); rintro e W2 ⟨rfl, bb⟩; have P2 := Lib.hid (P1.out.trans (bb.mono P1.out.size)); obtain ⟨x0, x1, x2, x3, x4, x5, x6, x7, x8, x9⟩ := HC.out _ P2.out; clear bb)
          | (go_at_call 11; (with_reducible refine (CK2.out _).mono ?_); rintro e W3 ⟨rfl, bb⟩; have P3 := Lib.hid (P2.out.trans (bb.mono P2.out.size)); obtain ⟨u0, u1, u2, u3, u4, u5, u6, u7, u8, u9⟩ := HC.out _ P3.out; clear bb))
        obtain ⟨_, hor1, hbr1⟩ := labChk_sound HK1.out
        obtain ⟨_, hor2, hbr2⟩ := labChk_sound HK2.out
        have hf1 := allF_ok HR.out hor1 hbr1
        have hf2 := allF_ok HR.out hor2 hbr2
        have hl1 : (allF ds ps o).length ≤ 200 := hf1.2.2.2.2
        have HLE : Hid ((allF ds ps o).length = (everyL ds ps).length) := hf1.2.2.2.1
        have HLF : Hid ((allF ds ps o).length = (allF ds ps p).length) := hf1.2.2.2.1.trans hf2.2.2.2.1.symm
        clear hor1 hbr1 hor2 hbr2 hf1 hf2 y0 y1 y2 y3 y4 y5 y6 y7 y8 y9 x0 x1 x2 x3 x4 x5 x6 x7 x8 x9 u0 u1 u2 u3 u4 u5 u6 u7 u8 u9
        have CA1 : Hid (∀ W, Below W3.heap.size W3 W → Calls Tryz.prog 14 #[.agg #[.slice a0 ds.length c0, .slice a1 ps.length c1]] W fun e w' => ∃ av cv, e = .returned (.slice av ds.length cv) ∧ IsAt w' (.slice av ds.length cv) (allV ds.length) ∧ Below W3.heap.size W3 w') := fun W h =>
          have hb := HB0.out.trans ((P3.out.trans (h.mono P3.out.size)).mono HB0.out.size)
          (all19_c _ _ ds ps W (HD.out.below hb) (HP.out.below hb) (by have := (right19_ok HR.out).2.2.1; omega)).mono fun e w' ⟨av, cv, h1, h2, h3⟩ => ⟨av, cv, h1, h2, h.trans (h3.mono h.size)⟩
        have CS1 : Hid (∀ W av cv, Below W3.heap.size W3 W → IsAt W (.slice av ds.length cv) (allV ds.length) → Calls Tryz.prog 13 #[.slice a0 ds.length c0, .slice a1 ps.length c1, .slice av ds.length cv, .agg #[.int .i64 o.sel, .int .i64 o.ord, .int .i64 o.br, .slice a2 o.ws.length c2], .int .i64 1000, .int .i64 10000] W fun e w' => ∃ ar cr, e = .returned (.tuple #[.slice ar (allF ds ps o).length cr, .int .i64 0]) ∧ LsAt w' (.slice ar (allF ds ps o).length cr) (allF ds ps o) ∧ Below W3.heap.size W3 w') := fun W av cv h hi => by
          have hb := HB0.out.trans ((P3.out.trans (h.mono P3.out.size)).mono HB0.out.size)
          have hs := solveAll_c (.slice a0 ds.length c0) (.slice a1 ps.length c1) (.slice av ds.length cv) (.slice a2 o.ws.length c2) o ds ps 1000 W (HD.out.below hb) (HP.out.below hb) hi (HO.out.below hb) HR.out HK1.out (by decide) (by decide)
          rw [allF_take HR.out HK1.out] at hs
          exact hs.mono fun e w' ⟨ar, cr, h1, h2, h3⟩ => ⟨ar, cr, h1, h2, h.trans (h3.mono h.size)⟩
        have HSW1 : Hid (∀ W', Below W3.heap.size W3 W' → (fun W' => W'.cell? ⟨w.heap.size, 0, none⟩ = some (.slice a0 ds.length c0) ∧ W'.cell? ⟨w.heap.size, 1, none⟩ = some (.slice a1 ps.length c1) ∧ W'.cell? ⟨w.heap.size + 1, 0, none⟩ = some (.int .i64 o.sel) ∧ W'.cell? ⟨w.heap.size + 1, 1, none⟩ = some (.int .i64 o.ord) ∧ W'.cell? ⟨w.heap.size + 1, 2, none⟩ = some (.int .i64 o.br) ∧ W'.cell? ⟨w.heap.size + 1, 3, none⟩ = some (.slice a2 o.ws.length c2)) W') := fun W' h =>
          have hc := HC.out W' (P3.out.trans (h.mono P3.out.size))
          ⟨hc.1, hc.2.1, hc.2.2.1, hc.2.2.2.1, hc.2.2.2.2.1, hc.2.2.2.2.2.1⟩
        obtain ⟨s0, s1, s2, s3, s4, s5⟩ := HSW1.out W3 (Below.refl _ _)
        clear CK1 CK2 CR CBAD
        go_wp2
        go_region_held3 (fun W' => W'.cell? ⟨w.heap.size, 0, none⟩ = some (.slice a0 ds.length c0) ∧ W'.cell? ⟨w.heap.size, 1, none⟩ = some (.slice a1 ps.length c1) ∧ W'.cell? ⟨w.heap.size + 1, 0, none⟩ = some (.int .i64 o.sel) ∧ W'.cell? ⟨w.heap.size + 1, 1, none⟩ = some (.int .i64 o.ord) ∧ W'.cell? ⟨w.heap.size + 1, 2, none⟩ = some (.int .i64 o.br) ∧ W'.cell? ⟨w.heap.size + 1, 3, none⟩ = some (.slice a2 o.ws.length c2)) ((first | exact HSW1.out _ QW5.out | exact HSW1.out _ QW4.out | (refine HSW1.out _ ?_; go_grown)))
          (first
            | (go_at_call 14; refine (CA1.out _ ?_).mono ?_; (· go_grown); rintro e W4 ⟨av1, cv1, rfl, i1, bw⟩; have QW4 := Lib.hid bw; have I1 := Lib.hid i1; clear bw i1)
            | (go_at_call 13; (with_reducible refine (CS1.out _ _ _ QW4.out I1.out).mono ?_); rintro e W5 ⟨ar1, cr1, rfl, l1, bw⟩; have QW5 := Lib.hid bw; have L1 := Lib.hid l1; clear bw l1))
        clear s0 s1 s2 s3 s4 s5
        have P5 := Lib.hid (P3.out.trans (QW5.out.mono P3.out.size))
        have CA2 : Hid (∀ W, Below W5.heap.size W5 W → Calls Tryz.prog 14 #[.agg #[.slice a0 ds.length c0, .slice a1 ps.length c1]] W fun e w' => ∃ av cv, e = .returned (.slice av ds.length cv) ∧ IsAt w' (.slice av ds.length cv) (allV ds.length) ∧ Below W5.heap.size W5 w') := fun W h =>
          have hb := HB0.out.trans ((P5.out.trans (h.mono P5.out.size)).mono HB0.out.size)
          (all19_c _ _ ds ps W (HD.out.below hb) (HP.out.below hb) (by have := (right19_ok HR.out).2.2.1; omega)).mono fun e w' ⟨av, cv, h1, h2, h3⟩ => ⟨av, cv, h1, h2, h.trans (h3.mono h.size)⟩
        have CS2 : Hid (∀ W av cv, Below W5.heap.size W5 W → IsAt W (.slice av ds.length cv) (allV ds.length) → Calls Tryz.prog 13 #[.slice a0 ds.length c0, .slice a1 ps.length c1, .slice av ds.length cv, .agg #[.int .i64 p.sel, .int .i64 p.ord, .int .i64 p.br, .slice a3 p.ws.length c3], .int .i64 1000, .int .i64 10000] W fun e w' => ∃ ar cr, e = .returned (.tuple #[.slice ar (allF ds ps p).length cr, .int .i64 0]) ∧ LsAt w' (.slice ar (allF ds ps p).length cr) (allF ds ps p) ∧ Below W5.heap.size W5 w') := fun W av cv h hi => by
          have hb := HB0.out.trans ((P5.out.trans (h.mono P5.out.size)).mono HB0.out.size)
          have hs := solveAll_c (.slice a0 ds.length c0) (.slice a1 ps.length c1) (.slice av ds.length cv) (.slice a3 p.ws.length c3) p ds ps 1000 W (HD.out.below hb) (HP.out.below hb) hi (HQ.out.below hb) HR.out HK2.out (by decide) (by decide)
          rw [allF_take HR.out HK2.out] at hs
          exact hs.mono fun e w' ⟨ar, cr, h1, h2, h3⟩ => ⟨ar, cr, h1, h2, h.trans (h3.mono h.size)⟩
        have HSW2 : Hid (∀ W', Below W5.heap.size W5 W' → (fun W' => W'.cell? ⟨w.heap.size, 0, none⟩ = some (.slice a0 ds.length c0) ∧ W'.cell? ⟨w.heap.size, 1, none⟩ = some (.slice a1 ps.length c1) ∧ W'.cell? ⟨w.heap.size + 1 + 1, 0, none⟩ = some (.int .i64 p.sel) ∧ W'.cell? ⟨w.heap.size + 1 + 1, 1, none⟩ = some (.int .i64 p.ord) ∧ W'.cell? ⟨w.heap.size + 1 + 1, 2, none⟩ = some (.int .i64 p.br) ∧ W'.cell? ⟨w.heap.size + 1 + 1, 3, none⟩ = some (.slice a3 p.ws.length c3)) W') := fun W' h =>
          have hc := HC.out W' (P5.out.trans (h.mono P5.out.size))
          ⟨hc.1, hc.2.1, hc.2.2.2.2.2.2.1, hc.2.2.2.2.2.2.2.1, hc.2.2.2.2.2.2.2.2.1, hc.2.2.2.2.2.2.2.2.2⟩
        obtain ⟨s0, s1, s2, s3, s4, s5⟩ := HSW2.out W5 (Below.refl _ _)
        go_wp2
        go_region_held3 (fun W' => W'.cell? ⟨w.heap.size, 0, none⟩ = some (.slice a0 ds.length c0) ∧ W'.cell? ⟨w.heap.size, 1, none⟩ = some (.slice a1 ps.length c1) ∧ W'.cell? ⟨w.heap.size + 1 + 1, 0, none⟩ = some (.int .i64 p.sel) ∧ W'.cell? ⟨w.heap.size + 1 + 1, 1, none⟩ = some (.int .i64 p.ord) ∧ W'.cell? ⟨w.heap.size + 1 + 1, 2, none⟩ = some (.int .i64 p.br) ∧ W'.cell? ⟨w.heap.size + 1 + 1, 3, none⟩ = some (.slice a3 p.ws.length c3)) ((first | exact HSW2.out _ QW7.out | exact HSW2.out _ QW6.out | (refine HSW2.out _ ?_; go_grown)))
          (first
            | (go_at_call 14; refine (CA2.out _ ?_).mono ?_; (· go_grown); rintro e W6 ⟨av2, cv2, rfl, i2, bw⟩; have QW6 := Lib.hid bw; have I2 := Lib.hid i2; clear bw i2)
            | (go_at_call 13; (with_reducible refine (CS2.out _ _ _ QW6.out I2.out).mono ?_); rintro e W7 ⟨ar2, cr2, rfl, l2, bw⟩; have QW7 := Lib.hid bw; have L2 := Lib.hid l2; clear bw l2))
        clear s0 s1 s2 s3 s4 s5
        have P7 := Lib.hid (P5.out.trans (QW7.out.mono P5.out.size))
        have BI7 := Lib.hid (HB0.out.trans (P7.out.mono HB0.out.size))
        obtain ⟨y0, y1, _⟩ := HC.out W7 P7.out
        obtain ⟨_, _, h4, hpr, hsm⟩ := right19_ok HR.out
        have CE := Lib.hid (every_c _ _ ds ps W7 (HD.out.below BI7.out) (HP.out.below BI7.out) HR.out hpr h4 hsm)
        have e1 : (((allF ds ps o).length : Int) == ((allF ds ps p).length : Int)) = true := by rw [HLF.out]; simp
        have e2 : (((allF ds ps o).length : Int) == ((everyL ds ps).length : Int)) = true := by rw [HLE.out]; simp
        clear h4 hpr hsm
        go_wp2_with (go_at_call 15; (with_reducible refine CE.out.mono ?_); rintro e W8 ⟨ae, ce, rfl, _, bb⟩; have B8 := Lib.hid (BI7.out.trans (bb.mono BI7.out.size)); clear bb)
        go_ret
        exact ⟨rfl, B8.out⟩
end Go.Proofs.YtaekdgikgbdnnaaGreat
