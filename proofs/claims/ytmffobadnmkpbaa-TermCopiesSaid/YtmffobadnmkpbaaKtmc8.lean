/-
  The law TermCopies, walked.
  LISTS OF uint8 THAT COME IN (at the seats of terms).
-/
import Derived.Test.YtmffobadnmkpbaaKtmc5
import Derived.Test.YtmffobadnmkpbaaKtmc6
import Derived.Test.YtmffobadnmkpbaaKtmc7
import Derived.Test.YtmffobadnmkpbaaKtmc1
import Derived.Deep.RegionHeld3
import Derived.BigRegion
import Derived.RegionTactic
import Derived.Test.YtmffobadnmkpbaaRows
import Derived.Test.YtmffobadnmkpbaaKpars1
import Derived.Test.YtmffobadnmkpbaaKlib1
import Derived.Lib.SmallJoins
namespace Go.Proofs.Ytmffobadnmkpbaa
open Go.RowKit

/-- the list of variables so far -/
structure VL (B : Nat) (w1 wr : World) (v : Value) (Q : List (Tm × Value)) : Prop where
  own : OwnTs (fun _ => False) B wr v Q
  bel : Below B w1 wr
  sz : B ≤ wr.heap.size
theorem VL.push {B : Nat} {w1 wr w' : World} {v : Value} {Q : List (Tm × Value)} {n g cap : Nat} (H : VL B w1 wr v Q)
    (ho : w'.ownsRow B 24 4 (.slice (some ⟨g, 0, none⟩) (Q.length + 1) cap) (Q.length + 1) (tmCs Q ++ (#[.int .i64 1, .int .i64 n, .string ByteArray.empty, .slice none 0 0] : Array Value).toList)) (hb : Below B wr w') (hk : KeepsBut wr w' v) (hl : v.ownBlock = some g ∨ wr.heap.size ≤ g) :
    VL B w1 w' (.slice (some ⟨g, 0, none⟩) (Q.length + 1) cap) (Q ++ [(.var n, .slice none 0 0)]) :=
  ⟨H.own.push (t := .var n) (a := .slice none 0 0) (.leaf rfl) ho hk hl, H.bel.trans hb, Nat.le_trans H.sz hb.size⟩

set_option maxRecDepth 100000 in
set_option maxHeartbeats 6400000 in
theorem termCopies_any (s : ByteArray) (T0 : List Nat) (lv : Value) (w : World) (hT : U8At w lv T0) : Calls Try.prog 5 #[.string s, lv] w fun e w' => e = .returned (.bool true) ∧ Below w.heap.size w w' := by
  obtain ⟨i0, hi, hz0, hz1, hz2⟩ := info_parts Try.infoTerm
  obtain ⟨lo, lc, rfl, hlc, hlm⟩ := hT.shape
  have CO := Lib.hid (one7_c s w)
  have HT0 := Lib.hid hT
  clear hT
  go_enter Try.func5, Try.ntmps5
  go_upto_region 2 with (first | (go_at_call 14; ((with_reducible refine CO.out.mono ?_); rintro e W1 ⟨t, ao, cap, b, rfl, ht, hf, bb⟩; have HT := Lib.hid ht; have HF := Lib.hid hf; have B1 := Lib.hid bb; clear bb ht hf)))
  have CS : Hid (∀ W, Calls Try.prog 15 #[.agg #[.int .i64 3, .int .i64 0, .string ⟨#[97]⟩, .slice none 0 0]] W fun e w' => e = .returned (.int .i64 1) ∧ Below W.heap.size W w') := fun W => size_c (.atom ⟨#[97]⟩) (.slice none 0 0) W (.leaf rfl) (by simp [Tm.size])
  obtain ⟨W0, hW0⟩ : ∃ W0, W0 = W1.alloc (.cells #[.int .i64 t.kind, .int .i64 t.num, .string t.name, .slice ao t.args.length cap] 24) := ⟨_, rfl⟩
  have b10 : Below W1.heap.size W1 W0 := by rw [hW0]; exact (Below.refl _ _).alloc (Nat.le_refl _) _
  have B2 := Lib.hid (B1.out.trans (b10.mono B1.out.size))
  rw [← hW0]
  cases b with
  | false =>
    clear hW0 b10
    go_wp2_with (first | (go_at_call 15; ((with_reducible refine (CS.out _).mono ?_); rintro e W2 ⟨rfl, bb⟩; have B3 := Lib.hid (B2.out.trans (bb.mono B2.out.size)); clear bb)))
    go_ret
    exact ⟨rfl, B3.out⟩
  | true =>
  by_cases h100 : 100 < T0.length
  · have hki : (100 : Int) < T0.length := by omega
    clear hW0 b10 h100
    go_wp2_with (first | (go_at_call 15; ((with_reducible refine (CS.out _).mono ?_); rintro e W2 ⟨rfl, bb⟩; have B3 := Lib.hid (B2.out.trans (bb.mono B2.out.size)); clear bb)))
    go_ret
    exact ⟨rfl, B3.out⟩
  have hki : ¬ (100 : Int) < T0.length := by omega
  obtain ⟨hok, hsz⟩ := HF.out rfl
  have hta : TmAt (fun _ => True) W0 t (.slice ao t.args.length cap) := HT.out.any.later b10
  have KK : Hid (∀ W, Below W0.heap.size W0 W → W.cell? ⟨W1.heap.size, 0, none⟩ = some (.int .i64 t.kind) ∧ W.cell? ⟨W1.heap.size, 1, none⟩ = some (.int .i64 t.num) ∧ W.cell? ⟨W1.heap.size, 2, none⟩ = some (.string t.name) ∧ W.cell? ⟨W1.heap.size, 3, none⟩ = some (.slice ao t.args.length cap)) := fun W h => by
    subst hW0
    exact kk4 ((BoxL.mk' W1 #[.int .i64 t.kind, .int .i64 t.num, .string t.name, .slice ao t.args.length cap] 24).below h (by simp))
  have HTA := Lib.hid hta
  have HT2 := Lib.hid (HT0.out.below B2.out)
  have V0 : Hid (VL W0.heap.size W0 (W0.alloc (.cells #[] 24)) (.slice (some ⟨W0.heap.size, 0, none⟩) 0 0) []) := ⟨OwnTs.made _ W0, (Below.refl _ _).alloc (Nat.le_refl _) _, by simp⟩
  clear hW0 hta b10
  go_wp2
  go_loopg [7, 8] T0.length (fun n v i wr => ∃ (k : Nat) (Q : List (Tm × Value)), k ≤ T0.length ∧ i = .int .i64 k ∧ Hid (n = T0.length - k) ∧ Hid (VL W0.heap.size W0 wr v Q) ∧ Hid (Q.map Prod.fst = (T0.take k).map Tm.var) ∧ Hid (Q.length = k))
  case atStart => exact ⟨0, [], by omega, rfl, rfl, V0, Lib.hid rfl, Lib.hid rfl⟩
  case round =>
    obtain ⟨k, Q, hk, rfl, HN, HV, HQ, hQk⟩ := hrel
    obtain ⟨va, vc, rfl, hvc, _⟩ := HV.out.own.shape
    have hqz : Q.length ≤ 100 := by have := hQk.out; omega
    by_cases hlt : k < T0.length
    · have hkk : (k : Int) < T0.length := by omega
      obtain ⟨b, off, rfl, hb, hc, h255⟩ := (HT2.out.below HV.out.bel).get k hlt
      have HQ2 : Hid ((Q ++ [(Tm.var T0[k], Value.slice none 0 0)]).map Prod.fst = (T0.take (k + 1)).map Tm.var) := by show _ = _; rw [List.map_append, HQ.out, List.take_succ_eq_append_getElem hlt, List.map_append]; rfl
      have hvs := HV.out.sz
      generalize T0[k] = y at *
      go_wp2_with (first
        | (at_builtin; refine wpList_appendX rfl (.tmp 36) (.tmp 43) 22 rfl W0.heap.size 24 i0 (.agg #[.int .i64 0, .int .i64 0, .string ByteArray.empty, .slice none 0 0]) 4 56 Try.underlying22 hi hz0 hz1 hz2 rfl (by decide) _ Q.length (tmCs Q) rfl HV.out.own.own _ _ rfl rfl rfl (one4r rfl rfl rfl rfl) ⟨by omega, by omega⟩ hvs ?_; intro g cap W5 ho5 hb5 hk5 hl5; have R5 := Lib.hid (HV.out.push ho5 hb5 hk5 hl5); clear ho5 hb5 hk5 hl5))
      go_roundg (T0.length - (k + 1))
      case measure => have := HN.out; omega
      case rel => exact ⟨k + 1, _, by omega, by go_num, rfl, R5, HQ2, Lib.hid (by rw [List.length_append, hQk.out]; rfl)⟩
    · obtain rfl : k = T0.length := by omega
      have HL : Hid (Q.map Prod.fst = T0.map Tm.var) := by show _ = _; have h := HQ.out; rw [List.take_length] at h; exact h
      have LT : TsAt (fun _ => True) wr (.slice va Q.length vc) (T0.map Tm.var) := by have h := HV.out.own.at; rw [HL.out] at h; exact h
      have LB := Lib.hid (LT.mono (p' := fun b => b < wr.heap.size) fun b hb _ => ⟨hb, rfl⟩)
      have HLO : ∀ u ∈ T0.map Tm.var, u.ok ∧ u.size ≤ 1000000 := fun u hu => by obtain ⟨n, hn, rfl⟩ := List.mem_map.1 hu; have := HT2.out.2 n hn; exact ⟨.var (by omega), by simp [Tm.size]⟩
      obtain ⟨u, hu⟩ : ∃ u, u = renT (toF T0) t := ⟨_, rfl⟩
      have CU : Hid (Calls Try.prog 25 #[.agg #[.int .i64 t.kind, .int .i64 t.num, .string t.name, .slice ao t.args.length cap], .slice va Q.length vc] wr fun e w' => ∃ pa qa, e = .returned (.agg #[.int .i64 u.kind, .int .i64 u.num, .string u.name, .slice pa u.args.length qa]) ∧ TmAt (fun b => wr.heap.size ≤ b) w' u (.slice pa u.args.length qa) ∧ Below wr.heap.size wr w') := by
        have h := subst_c t _ _ _ wr (HTA.out.later HV.out.bel) LT hok (by omega) HLO
        rw [sig_var, ← hu] at h; exact h
      have CR : Hid (∀ W, Below wr.heap.size wr W → Calls Try.prog 27 #[.agg #[.int .i64 t.kind, .int .i64 t.num, .string t.name, .slice ao t.args.length cap], .slice va Q.length vc] W fun e w' => ∃ pa qa, e = .returned (.agg #[.int .i64 u.kind, .int .i64 u.num, .string u.name, .slice pa u.args.length qa]) ∧ TmAt (fun _ => True) w' u (.slice pa u.args.length qa) ∧ Below W.heap.size W w') := fun W hb => by
        have h := rsub_all wr.heap.size (T0.map Tm.var) t _ _ W hb.size (HTA.out.later (HV.out.bel.trans (hb.mono HV.out.sz))) (LB.out.grow hb fun _ _ h => h) hok (by omega)
        rw [sig_var, ← hu] at h
        exact h.mono fun e w' ⟨pa, qa, h1, h2, h3⟩ => ⟨pa, qa, h1, h2.any, h3⟩
      have us : u.size = t.size := by rw [hu]; exact ren_size _ _
      have ud : u.depth = t.depth := by rw [hu]; exact ren_depth _ _
      have uo : u.ok := by rw [hu]; exact ren_ok _ (fun n h => toF_lt T0 HT2.out.2 n h) t hok
      have uv : Hid (variantB t u = singleB (plI (toF T0)) t.vars) := by show _ = _; rw [hu]; exact single_eq _ _
      have K0 := KK.out wr HV.out.bel
      have HUO := Lib.hid uo
      have HUS := Lib.hid us
      have HUD := Lib.hid ud
      have hvs := HV.out.sz
      have HKZ := Lib.hid hvs
      clear LT HLO hu us ud uo hvs
      obtain ⟨y0, y1, y2, y3⟩ := K0
      go_upto_region 10 with (first | (go_at_call 25; ((with_reducible refine CU.out.mono ?_); rintro e W5 ⟨pa, qa, rfl, tg, bb⟩; have TG := Lib.hid tg; have B5 := Lib.hid bb; clear bb tg)))
      obtain ⟨W6, hW6⟩ : ∃ W6, W6 = W5.alloc (.cells #[.int .i64 u.kind, .int .i64 u.num, .string u.name, .slice pa u.args.length qa] 24) := ⟨_, rfl⟩
      rw [← hW6]
      have b56 : Below W5.heap.size W5 W6 := by rw [hW6]; exact (Below.refl _ _).alloc (Nat.le_refl _) _
      have B6 := Lib.hid (B5.out.trans (b56.mono B5.out.size))
      have B06 := Lib.hid (HV.out.bel.trans (B6.out.mono HKZ.out))
      have KK2 : Hid (∀ W, Below W6.heap.size W6 W → W.cell? ⟨W1.heap.size, 0, none⟩ = some (.int .i64 t.kind) ∧ W.cell? ⟨W1.heap.size, 1, none⟩ = some (.int .i64 t.num) ∧ W.cell? ⟨W1.heap.size, 2, none⟩ = some (.string t.name) ∧ W.cell? ⟨W1.heap.size, 3, none⟩ = some (.slice ao t.args.length cap) ∧ W.cell? ⟨W5.heap.size, 0, none⟩ = some (.int .i64 u.kind) ∧ W.cell? ⟨W5.heap.size, 1, none⟩ = some (.int .i64 u.num) ∧ W.cell? ⟨W5.heap.size, 2, none⟩ = some (.string u.name) ∧ W.cell? ⟨W5.heap.size, 3, none⟩ = some (.slice pa u.args.length qa)) := fun W h => by
        have h1 := KK.out W (B06.out.trans (h.mono B06.out.size))
        have h2 : BoxL W W5.heap.size [.int .i64 u.kind, .int .i64 u.num, .string u.name, .slice pa u.args.length qa] := by
          subst hW6
          exact (BoxL.mk' W5 #[.int .i64 u.kind, .int .i64 u.num, .string u.name, .slice pa u.args.length qa] 24).below h (by simp)
        have h3 := kk4 h2
        exact ⟨h1.1, h1.2.1, h1.2.2.1, h1.2.2.2, h3.1, h3.2.1, h3.2.2.1, h3.2.2.2⟩
      have HUA : Hid (TmAt (fun _ => True) W6 u (.slice pa u.args.length qa)) := TG.out.any.later b56
      have HTB : Hid (TmAt (fun _ => True) W6 t (.slice ao t.args.length cap)) := HTA.out.later B06.out
      have C1 : Hid (∀ W, Below W6.heap.size W6 W → Calls Try.prog 27 #[.agg #[.int .i64 t.kind, .int .i64 t.num, .string t.name, .slice ao t.args.length cap], .slice va Q.length vc] W fun e w' => ∃ pa qa, e = .returned (.agg #[.int .i64 u.kind, .int .i64 u.num, .string u.name, .slice pa u.args.length qa]) ∧ TmAt (fun _ => True) w' u (.slice pa u.args.length qa) ∧ Below W6.heap.size W6 w') := fun W h => (CR.out W (B6.out.trans (h.mono B6.out.size))).mono fun e w' ⟨pa, qa, h1, h2, h3⟩ => ⟨pa, qa, h1, h2, h.trans (h3.mono h.size)⟩
      have C2 : Hid (∀ W p q, Below W6.heap.size W6 W → TmAt (fun _ => True) W u (.slice p u.args.length q) → Calls Try.prog 26 #[.agg #[.int .i64 u.kind, .int .i64 u.num, .string u.name, .slice pa u.args.length qa], .agg #[.int .i64 u.kind, .int .i64 u.num, .string u.name, .slice p u.args.length q]] W fun e w' => e = .returned (.bool true) ∧ Below W6.heap.size W6 w') := fun W p q h h2 => (same07_all u _ _ W (HUA.out.later h) h2).mono fun e w' ⟨h3, h4⟩ => ⟨h3, h.trans (h4.mono h.size)⟩
      have C3 : Hid (∀ W, Below W6.heap.size W6 W → Calls Try.prog 15 #[.agg #[.int .i64 u.kind, .int .i64 u.num, .string u.name, .slice pa u.args.length qa]] W fun e w' => e = .returned (.int .i64 t.size) ∧ Below W6.heap.size W6 w') := fun W h => (size_c u _ W (HUA.out.later h) (by rw [HUS.out]; omega)).mono fun e w' ⟨h1, h2⟩ => ⟨by rw [h1, HUS.out], h.trans (h2.mono h.size)⟩
      have C4 : Hid (∀ W, Below W6.heap.size W6 W → Calls Try.prog 15 #[.agg #[.int .i64 t.kind, .int .i64 t.num, .string t.name, .slice ao t.args.length cap]] W fun e w' => e = .returned (.int .i64 t.size) ∧ Below W6.heap.size W6 w') := fun W h => (size_c t _ W (HTB.out.later h) (by omega)).mono fun e w' ⟨h1, h2⟩ => ⟨h1, h.trans (h2.mono h.size)⟩
      have C5 : Hid (∀ W, Below W6.heap.size W6 W → Calls Try.prog 17 #[.agg #[.int .i64 u.kind, .int .i64 u.num, .string u.name, .slice pa u.args.length qa]] W fun e w' => e = .returned (.int .i64 t.depth) ∧ Below W6.heap.size W6 w') := fun W h => (depth_c u _ W (HUA.out.later h) (by rw [HUS.out]; omega)).mono fun e w' ⟨h1, h2⟩ => ⟨by rw [h1, HUD.out], h.trans (h2.mono h.size)⟩
      have C6 : Hid (∀ W, Below W6.heap.size W6 W → Calls Try.prog 17 #[.agg #[.int .i64 t.kind, .int .i64 t.num, .string t.name, .slice ao t.args.length cap]] W fun e w' => e = .returned (.int .i64 t.depth) ∧ Below W6.heap.size W6 w') := fun W h => (depth_c t _ W (HTB.out.later h) (by omega)).mono fun e w' ⟨h1, h2⟩ => ⟨h1, h.trans (h2.mono h.size)⟩
      have C7 : Hid (∀ W, Below W6.heap.size W6 W → Calls Try.prog 21 #[.agg #[.int .i64 t.kind, .int .i64 t.num, .string t.name, .slice ao t.args.length cap]] W fun e w' => ∃ a c, e = .returned (.slice a t.vars.length c) ∧ IsAt w' (.slice a t.vars.length c) t.vars ∧ Below W6.heap.size W6 w') := fun W h => (rvars_all t _ W (HTB.out.later h) hok (by omega)).mono fun e w' ⟨a, c, h1, h2, h3⟩ => ⟨a, c, h1, IsAt.own h2, h.trans (h3.mono h.size)⟩
      have C8 : Hid (∀ W, Below W6.heap.size W6 W → Calls Try.prog 29 #[.agg #[.int .i64 t.kind, .int .i64 t.num, .string t.name, .slice ao t.args.length cap], .agg #[.int .i64 u.kind, .int .i64 u.num, .string u.name, .slice pa u.args.length qa]] W fun e w' => e = .returned (.bool (singleB (plI (toF T0)) t.vars)) ∧ Below W6.heap.size W6 w') := fun W h => (variant_c t u _ _ W (HTB.out.later h) (HUA.out.later h) hok HUO.out (by omega)).mono fun e w' ⟨h1, h2⟩ => ⟨by rw [h1, uv.out], h.trans (h2.mono h.size)⟩
      have C9 : Hid (∀ W (n : Nat), Below W6.heap.size W6 W → Calls Try.prog 28 #[.int .i64 n, .slice lo T0.length lc] W fun e w' => e = .returned (.int .i64 (toF T0 n : Nat)) ∧ Below W6.heap.size W6 w') := fun W n h => (place07_c T0 _ n W (HT2.out.below (B06.out.trans (h.mono B06.out.size)))).mono fun e w' ⟨h1, h2⟩ => ⟨h1, h.trans (h2.mono h.size)⟩
      have HVB : Hid (∀ x ∈ t.vars, 0 ≤ x ∧ x < 5000) := fun x hx => Tm.vs_bound hok x (by simpa [Tm.vars, mem_addVs] using hx)
      have hvl := t.vars_len
      have B66 : Hid (Below w.heap.size w W6) := B2.out.trans (B06.out.mono B2.out.size)
      obtain ⟨x0, x1, x2, x3, x4, x5, x6, x7⟩ := KK2.out _ (Below.refl _ _)
      clear hW6 b56 y0 y1 y2 y3 CU CR CS CO
      go_region_held3 (fun W => W.cell? ⟨W1.heap.size, 0, none⟩ = some (.int .i64 t.kind) ∧ W.cell? ⟨W1.heap.size, 1, none⟩ = some (.int .i64 t.num) ∧ W.cell? ⟨W1.heap.size, 2, none⟩ = some (.string t.name) ∧ W.cell? ⟨W1.heap.size, 3, none⟩ = some (.slice ao t.args.length cap) ∧ W.cell? ⟨W5.heap.size, 0, none⟩ = some (.int .i64 u.kind) ∧ W.cell? ⟨W5.heap.size, 1, none⟩ = some (.int .i64 u.num) ∧ W.cell? ⟨W5.heap.size, 2, none⟩ = some (.string u.name) ∧ W.cell? ⟨W5.heap.size, 3, none⟩ = some (.slice pa u.args.length qa))
        ((first | exact KK2.out _ P6.out | exact KK2.out _ P5.out | exact KK2.out _ P4.out | exact KK2.out _ P3.out | exact KK2.out _ P2.out | exact KK2.out _ P1.out | (refine KK2.out _ ?_; go_grown)))
        (first
          | (go_at_call 27; ((with_reducible refine (C1.out _ ?_).mono ?_); (· go_grown); rintro e W7 ⟨p8, q8, rfl, tg, bb⟩; have P1 := Lib.hid bb; have T1 := Lib.hid tg; clear bb tg))
          | (go_at_call 26; ((with_reducible refine (C2.out _ _ _ P1.out T1.out).mono ?_); rintro e W8 ⟨rfl, bb⟩; have P2 := Lib.hid bb; clear bb))
          | (go_at_call 15; ((with_reducible refine (C3.out _ P2.out).mono ?_); rintro e W9 ⟨rfl, bb⟩; have P3 := Lib.hid bb; clear bb))
          | (go_at_call 15; ((with_reducible refine (C4.out _ P3.out).mono ?_); rintro e W10 ⟨rfl, bb⟩; have P4 := Lib.hid bb; clear bb))
          | (go_at_call 17; ((with_reducible refine (C5.out _ P4.out).mono ?_); rintro e W11 ⟨rfl, bb⟩; have P5 := Lib.hid bb; clear bb))
          | (go_at_call 17; ((with_reducible refine (C6.out _ P5.out).mono ?_); rintro e W12 ⟨rfl, bb⟩; have P6 := Lib.hid bb; clear bb)))
      obtain ⟨y0, y1, y2, y3, y4, y5, y6, y7⟩ := KK2.out _ P6.out
      go_wp2_with (first | (go_at_call 21; ((with_reducible refine (C7.out _ P6.out).mono ?_); rintro e W13 ⟨a3, c3, rfl, i3, bb⟩; have P7 := Lib.hid bb; have I3 := Lib.hid i3; clear bb i3)))
      clear x0 x1 x2 x3 x4 x5 x6 x7 y0 y1 y2 y3 y4 y5 y6 y7
      go_loopg [11, 12] t.vars.length (fun n b i wq => ∃ k : Nat, k ≤ t.vars.length ∧ i = .int .i64 k ∧ b = .bool (singleB (plI (toF T0)) (t.vars.take k)) ∧ Hid (n = t.vars.length - k) ∧ Hid (Below W13.heap.size W13 wq))
      case atStart => exact ⟨0, by omega, rfl, by simp [singleB], rfl, Below.refl _ _⟩
      case round =>
        obtain ⟨i, hi', rfl, rfl, HN2, HW2⟩ := hrel
        have P8 := Lib.hid (P7.out.trans (HW2.out.mono P7.out.size))
        by_cases hlt2 : i < t.vars.length
        · have hii : (i : Int) < t.vars.length := by omega
          obtain ⟨b2, o2, c', he, hc, -, hb, hx⟩ := SlAt.pos I3.out (by omega)
          simp only [Value.slice.injEq] at he
          obtain ⟨rfl, -, rfl⟩ := he
          have HC : Hid (∀ W, Below W13.heap.size W13 W → b2 < W.heap.size ∧ ∀ j (h : j < t.vars.length), W.cell? ⟨b2, o2 + j, none⟩ = some (.int .i64 t.vars[j])) := fun W h => ⟨Nat.lt_of_lt_of_le hb h.size, fun j hj => by rw [World.cell?_of_block (h.block b2 hb), hx j (by omega)]; simp [hj]⟩
          obtain ⟨n1, hn1⟩ : ∃ n1 : Nat, t.vars[i] = (n1 : Int) := ⟨t.vars[i].toNat, by have := HVB.out _ (List.getElem_mem hlt2); omega⟩
          have HST : Hid (singleB (plI (toF T0)) (t.vars.take (i + 1)) = singleK (plI (toF T0)) (t.vars.take i) (n1 : Int) i) := by show _ = _; rw [singleB_take _ _ _ hlt2, hn1]
          have HN1 := Lib.hid hn1
          clear hx hn1 hb
          go_wp2
          go_loopg [11, 13] i (fun n b j wq => ∃ k : Nat, k ≤ i ∧ j = .int .i64 k ∧ b = .bool (singleK (plI (toF T0)) (t.vars.take i) (n1 : Int) k) ∧ Hid (n = i - k) ∧ Hid (Below W13.heap.size W13 wq))
          case atStart => exact ⟨0, by omega, rfl, by rw [singleK_zero], rfl, HW2⟩
          case round =>
            obtain ⟨k, hk', rfl, rfl, HN3, HW3⟩ := hrel
            by_cases hlt3 : k < i
            · have hkk : (k : Int) < i := by omega
              have hkv : (k : Int) < t.vars.length := by omega
              have hlk : k < t.vars.length := by omega
              obtain ⟨n2, hn2⟩ : ∃ n2 : Nat, t.vars[k] = (n2 : Int) := ⟨t.vars[k].toNat, by have := HVB.out _ (List.getElem_mem hlk); omega⟩
              have HS3 : Hid (singleK (plI (toF T0)) (t.vars.take i) (n1 : Int) (k + 1) = (singleK (plI (toF T0)) (t.vars.take i) (n1 : Int) k && decide (((toF T0 n1 : Nat) : Int) ≠ ((toF T0 n2 : Nat) : Int)))) := by
                show _ = _
                have h := singleK_step (plI (toF T0)) (t.vars.take i) (n1 : Int) k (by simp; omega)
                rw [List.getElem_take, hn2] at h
                exact h
              have P9 := Lib.hid (P7.out.trans (HW3.out.mono P7.out.size))
              have KC : Hid (∀ W, Below wr.heap.size wr W → W.cell? ⟨b2, o2 + i, none⟩ = some (.int .i64 n1) ∧ W.cell? ⟨b2, o2 + k, none⟩ = some (.int .i64 n2)) := fun W h => by
                have h1 := HC.out W (HW3.out.trans (h.mono HW3.out.size))
                exact ⟨by rw [h1.2 i hlt2, HN1.out], by rw [h1.2 k hlk, hn2]⟩
              have hbw := (HC.out wr HW3.out).1
              have CA : Hid (∀ W, Below wr.heap.size wr W → Calls Try.prog 28 #[.int .i64 n1, .slice lo T0.length lc] W fun e w' => e = .returned (.int .i64 (toF T0 n1 : Nat)) ∧ Below wr.heap.size wr w') := fun W h => (place07_c T0 _ n1 W (HT2.out.below (B06.out.trans ((P9.out.trans (h.mono P9.out.size)).mono B06.out.size)))).mono fun e w' ⟨h1, h2⟩ => ⟨h1, h.trans (h2.mono h.size)⟩
              have CB : Hid (∀ W, Below wr.heap.size wr W → Calls Try.prog 28 #[.int .i64 n2, .slice lo T0.length lc] W fun e w' => e = .returned (.int .i64 (toF T0 n2 : Nat)) ∧ Below wr.heap.size wr w') := fun W h => (place07_c T0 _ n2 W (HT2.out.below (B06.out.trans ((P9.out.trans (h.mono P9.out.size)).mono B06.out.size)))).mono fun e w' ⟨h1, h2⟩ => ⟨h1, h.trans (h2.mono h.size)⟩
              obtain ⟨k1, k2⟩ := KC.out wr (Below.refl _ _)
              clear hn2
              generalize toF T0 n1 = r1 at *
              generalize toF T0 n2 = r2 at *
              generalize singleK (plI (toF T0)) (t.vars.take i) (n1 : Int) k = sb at *
              cases sb with
              | false =>
                go_upto_region 20 with (fail)
                go_region
                go_wp2
                go_roundg (i - (k + 1))
                case measure => have := HN3.out; omega
                case rel => exact ⟨k + 1, by omega, by go_num, by rw [HS3.out]; rfl, rfl, Lib.hid HW3.out.drew⟩
              | true =>
                go_upto_region 20 with (fail)
                go_region_held3 (fun W => W.cell? ⟨b2, o2 + i, none⟩ = some (.int .i64 n1) ∧ W.cell? ⟨b2, o2 + k, none⟩ = some (.int .i64 n2))
                  ((first | exact KC.out _ R2.out | exact KC.out _ R1.out | (refine KC.out _ ?_; go_grown)))
                  (first
                    | (go_at_call 28; ((with_reducible refine (CA.out _ ?_).mono ?_); (· go_grown); rintro e W14 ⟨rfl, bb⟩; have R1 := Lib.hid bb; clear bb))
                    | (go_at_call 28; ((with_reducible refine (CB.out _ R1.out).mono ?_); rintro e W15 ⟨rfl, bb⟩; have R2 := Lib.hid bb; clear bb)))
                go_wp2
                go_roundg (i - (k + 1))
                case measure => have := HN3.out; omega
                case rel => exact ⟨k + 1, by omega, by go_num, by rw [HS3.out]; simp [bne, BEq.beq], rfl, Lib.hid (HW3.out.trans (R2.out.mono HW3.out.size))⟩
            · obtain rfl : k = i := by omega
              go_wp2
              go_roundg (t.vars.length - (k + 1))
              case measure => have := HN2.out; omega
              case rel => exact ⟨k + 1, by omega, by go_num, by rw [HST.out], rfl, HW3⟩
        · obtain rfl : i = t.vars.length := by omega
          rw [List.take_length] at *
          obtain ⟨y0, y1, y2, y3, y4, y5, y6, y7⟩ := KK2.out _ P8.out
          go_wp2_with (first | (go_at_call 29; ((with_reducible refine (C8.out _ P8.out).mono ?_); rintro e W16 ⟨rfl, bb⟩; have P10 := Lib.hid bb; clear bb)))
          go_ret
          exact ⟨by simp, B66.out.trans (P10.out.mono B66.out.size)⟩
end Go.Proofs.Ytmffobadnmkpbaa
namespace Go.Proofs.Ytmffobadnmkpbaa
open Go.RowKit Go.ChangeShapes Go.WideShapes Go.ChangeAt

theorem cellsU8 : Try.prog.cellsOf 5 = 1 := by kernel_rfl
set_option maxRecDepth 100000 in
theorem open_u8s {H : Type} {enc : TypeId × Value → H} {w : World} {sp : Nat → Bool} {held : Bool} {base : Nat} {v : Value} {d : DataW H} {ps : List MemPlace}
    (hval : Value.okWide Try.prog w .any base 34 v) (h0 : DataW.Trod enc Try.prog w 0 sp held 34 v d ps) : ∃ zs : List Int, SlAt w 1 v zs.length (zs.map (Value.int .u8)) ∧ ∀ z ∈ zs, 0 ≤ z ∧ z ≤ 255 := by
  obtain ⟨a0, l0, c0, rfl⟩ := okWide_slice Try.underlying34 hval
  obtain ⟨fuel, h⟩ := Joins.field_of_Trod h0 rfl
  obtain ⟨n, xs, hS, hE⟩ := open_sl (k := 1) Try.underlying34 cellsU8 h
  have hx : ∀ i, i < n → ∃ z : Int, xs[i]? = some (.int .u8 z) ∧ (Lit.int .u8 z).wf = true := fun i hi => by
    obtain ⟨m, y, hy⟩ := hE i hi
    obtain ⟨z, hz, _, hwf⟩ := DataW.trod_int Try.underlying5 hy
    refine ⟨z, ?_, hwf⟩
    have := congrArg (·[0]?) hz
    simpa [List.getElem?_take, List.getElem?_drop] using this
  obtain ⟨f, hf⟩ := Deep.choose_lt hx
  have hl := hS.len
  have e : xs = ((List.range n).map f).map (Value.int .u8) := by
    apply List.ext_getElem?
    intro i
    by_cases hi : i < n
    · rw [(hf i hi).1]; simp [hi]
    · rw [List.getElem?_eq_none (by omega), List.getElem?_eq_none (by simp; omega)]
  refine ⟨(List.range n).map f, ?_, fun z hz => ?_⟩
  · rw [← e]
    simpa using hS
  · obtain ⟨i, hi, rfl⟩ := List.mem_map.1 hz
    have := (hf i (by simpa using hi)).2
    simpa [Lit.wf, IntKind.min, IntKind.max, IntKind.bits, IntKind.signed] using this
end Go.Proofs.Ytmffobadnmkpbaa
