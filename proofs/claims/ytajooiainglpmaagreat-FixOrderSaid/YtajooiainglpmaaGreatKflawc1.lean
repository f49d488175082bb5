/-
  FixComes, walked.
  FixOrder, walked.
-/
import Derived.Test.YtajooiainglpmaaGreatKflaw1
import Derived.Test.YtajooiainglpmaaGreatKoncea7
import Derived.Handy
import Derived.Deep.RegionHeld3
namespace Go.Proofs.YtajooiainglpmaaGreat
open Go.RowKit

theorem refFix_r {ds : Ds} {ps : List PL} {vds vps : Value} {w : World} (hd : DsAt w vds ds) (hp : PsAt w vps ps) (hin : FixIn ds ps) {R : Option Ds} (hR : FixOf ps ds R) : Calls Tryz.prog 23 #[vds, vps] w (RetO R w) :=
  (refFix_c ds ps vds vps w hd hp hin).mono fun _ _ ⟨_, h1, h2⟩ => by rw [fixOf_unique hR h1]; exact h2
set_option maxRecDepth 100000 in
set_option maxHeartbeats 3200000 in
theorem fixComes_any (vds vps : Value) (ds : Ds) (ps : List PL) (w : World) (hd : DsAt w vds ds) (hp : PsAt w vps ps) :
    Calls Tryz.prog 6 #[vds, vps] w fun e w' => e = .returned (.bool true) ∧ Below w.heap.size w w' := by
  have CR := Lib.hid (right17_c vds vps ds ps w hd hp)
  have HD := Lib.hid hd
  have HP := Lib.hid hp
  obtain ⟨a0, c0, rfl, _⟩ := hd.shape
  obtain ⟨a1, c1, rfl, _⟩ := hp.shape
  clear hd hp
  cases hr : right17 ds ps with
  | false =>
    rw [hr] at CR
    have CK := Lib.hid fixCheck_p0
    go_enter Tryz.func6, Tryz.ntmps6
    go_wp2_with (first
      | (go_at_call 25; (with_reducible refine CR.out.mono ?_); rintro e W1 ⟨rfl, bb⟩; have B1 := Lib.hid bb; clear bb)
      | (go_at_call 26; (with_reducible refine (CK.out _ _).mono ?_); rintro e W2 ⟨rfl, bb⟩; have B2 := Lib.hid (B1.out.trans (bb.mono B1.out.size)); clear bb))
    go_ret
    exact ⟨rfl, B2.out⟩
  | true =>
    rw [hr] at CR
    have hin := right17_in hr
    obtain ⟨R, hR⟩ := fixOf_exists (ps := ps) (D := ds) (fun p hp => (hin.fine p hp).good)
    have CF : Hid (∀ W, Below w.heap.size w W → Calls Tryz.prog 22 #[.slice a0 ds.length c0, .slice a1 ps.length c1] W (RetO R W)) := fun W h => fix_r (HD.out.below h) (HP.out.below h) hin hR
    have CG : Hid (∀ W, Below w.heap.size w W → Calls Tryz.prog 23 #[.slice a0 ds.length c0, .slice a1 ps.length c1] W (RetO R W)) := fun W h => refFix_r (HD.out.below h) (HP.out.below h) hin hR
    have HIN := Lib.hid hin
    clear hr hin
    cases R with
    | none =>
      have CF1 : Hid (∀ W, Below w.heap.size w W → Calls Tryz.prog 22 #[.slice a0 ds.length c0, .slice a1 ps.length c1] W fun e W' => e = .returned (.tuple #[.slice none 0 0, .bool false]) ∧ Below W.heap.size W W') := fun W h => (CF.out W h).mono fun e W' ⟨hb, hh⟩ => by
        rcases hh with ⟨_, _, _, h1, _⟩ | ⟨_, h1⟩
        · cases h1
        · exact ⟨h1, hb⟩
      have CG1 : Hid (∀ W, Below w.heap.size w W → Calls Tryz.prog 23 #[.slice a0 ds.length c0, .slice a1 ps.length c1] W fun e W' => e = .returned (.tuple #[.slice none 0 0, .bool false]) ∧ Below W.heap.size W W') := fun W h => (CG.out W h).mono fun e W' ⟨hb, hh⟩ => by
        rcases hh with ⟨_, _, _, h1, _⟩ | ⟨_, h1⟩
        · cases h1
        · exact ⟨h1, hb⟩
      have CS : Hid (∀ W, Calls Tryz.prog 24 #[.slice none 0 0, .slice none 0 0] W fun e W' => e = .returned (.bool true) ∧ Below W.heap.size W W') := fun W => (same17_c _ _ [] [] W DsAt.nil DsAt.nil (by simp) (fun d hd => by simp at hd)).mono fun e W' ⟨h1, h2⟩ => ⟨by rw [h1]; rfl, h2⟩
      clear CF CG
      go_enter Tryz.func6, Tryz.ntmps6
      go_wp2_with (first
        | (go_at_call 25; (with_reducible refine CR.out.mono ?_); rintro e W1 ⟨rfl, bb⟩; have B1 := Lib.hid bb; clear bb)
        | (go_at_call 22; (with_reducible refine (CF1.out _ B1.out).mono ?_); rintro e W2 ⟨rfl, bb⟩; have B2 := Lib.hid (B1.out.trans (bb.mono B1.out.size)); clear bb)
        | (go_at_call 23; (with_reducible refine (CG1.out _ B2.out).mono ?_); rintro e W3 ⟨rfl, bb⟩; have B3 := Lib.hid (B2.out.trans (bb.mono B2.out.size)); clear bb)
        | (go_at_call 24; (with_reducible refine (CS.out _).mono ?_); rintro e W4 ⟨rfl, bb⟩; have B4 := Lib.hid (B3.out.trans (bb.mono B3.out.size)); clear bb))
      go_ret
      exact ⟨rfl, B4.out⟩
    | some r =>
      have CF1 : Hid (∀ W, Below w.heap.size w W → Calls Tryz.prog 22 #[.slice a0 ds.length c0, .slice a1 ps.length c1] W fun e W' => ∃ ao cap, e = .returned (.tuple #[.slice ao r.length cap, .bool true]) ∧ DsAt W' (.slice ao r.length cap) r ∧ Below W.heap.size W W') := fun W h => (CF.out W h).mono fun e W' ⟨hb, hh⟩ => by
        rcases hh with ⟨_, ao, cap, h1, h2, h3⟩ | ⟨h1, _⟩
        · cases h1; exact ⟨ao, cap, h2, h3, hb⟩
        · cases h1
      have CG1 : Hid (∀ W, Below w.heap.size w W → Calls Tryz.prog 23 #[.slice a0 ds.length c0, .slice a1 ps.length c1] W fun e W' => ∃ ao cap, e = .returned (.tuple #[.slice ao r.length cap, .bool true]) ∧ DsAt W' (.slice ao r.length cap) r ∧ Below W.heap.size W W') := fun W h => (CG.out W h).mono fun e W' ⟨hb, hh⟩ => by
        rcases hh with ⟨_, ao, cap, h1, h2, h3⟩ | ⟨h1, _⟩
        · cases h1; exact ⟨ao, cap, h2, h3, hb⟩
        · cases h1
      have CF2 : Hid (∀ W v, Below w.heap.size w W → DsAt W v r → Calls Tryz.prog 22 #[v, .slice a1 ps.length c1] W fun e W' => ∃ ao cap, e = .returned (.tuple #[.slice ao r.length cap, .bool true]) ∧ DsAt W' (.slice ao r.length cap) r ∧ Below W.heap.size W W') := fun W v h hv => (fix_r hv (HP.out.below h) (HIN.out.res hR) (fixOf_again hR)).mono fun e W' ⟨hb, hh⟩ => by
        rcases hh with ⟨_, ao, cap, h1, h2, h3⟩ | ⟨h1, _⟩
        · cases h1; exact ⟨ao, cap, h2, h3, hb⟩
        · cases h1
      have CS : Hid (∀ W u v, DsAt W u r → DsAt W v r → Calls Tryz.prog 24 #[u, v] W fun e W' => e = .returned (.bool true) ∧ Below W.heap.size W W') := fun W u v hu hv => (same17_c u v r r W hu hv (by have := HIN.out.n; have := hR.1.len; omega) (allN_short' hR.1.nor)).mono fun e W' ⟨h1, h2⟩ => ⟨by rw [h1]; simp, h2⟩
      clear CF CG hR
      go_enter Tryz.func6, Tryz.ntmps6
      go_upto_region 9 with (first
        | (go_at_call 25; (with_reducible refine CR.out.mono ?_); rintro e W1 ⟨rfl, bb⟩; have B1 := Lib.hid bb; clear bb)
        | (go_at_call 22; (with_reducible refine (CF1.out _ B1.out).mono ?_); rintro e W2 ⟨a2, c2, rfl, d2, bb⟩; have D2 := Lib.hid d2; have B2 := Lib.hid (B1.out.trans (bb.mono B1.out.size)); clear bb d2)
        | (go_at_call 23; (with_reducible refine (CG1.out _ B2.out).mono ?_); rintro e W3 ⟨a3, c3, rfl, d3, bb⟩; have D3 := Lib.hid d3; have E3 := Lib.hid (D2.out.below bb); have B3 := Lib.hid (B2.out.trans (bb.mono B2.out.size)); clear bb d3)
        | (go_at_call 24; (with_reducible refine (CS.out _ _ _ E3.out D3.out).mono ?_); rintro e W4 ⟨rfl, bb⟩; have E4 := Lib.hid (E3.out.below bb); have B4 := Lib.hid (B3.out.trans (bb.mono B3.out.size)); clear bb))
      go_wp2_with (first
        | (go_at_call 22; (with_reducible refine (CF2.out _ _ B4.out E4.out).mono ?_); rintro e W5 ⟨a5, c5, rfl, d5, bb⟩; have D5 := Lib.hid d5; have E5 := Lib.hid (E4.out.below bb); have B5 := Lib.hid (B4.out.trans (bb.mono B4.out.size)); clear bb d5)
        | (go_at_call 24; (with_reducible refine (CS.out _ _ _ D5.out E5.out).mono ?_); rintro e W6 ⟨rfl, bb⟩; have B6 := Lib.hid (B5.out.trans (bb.mono B5.out.size)); clear bb))
      go_ret
      exact ⟨rfl, B6.out⟩
end Go.Proofs.YtajooiainglpmaaGreat
namespace Go.Proofs.YtajooiainglpmaaGreat
open Go.RowKit

theorem Tryz.infoProp : (Tryz.prog.info? 30).map (fun i => (i.zero, i.size, i.bytes)) = some (some (.agg #[.int .i64 0, .slice none 0 0, .slice none 0 0, .int .i64 0, .int .i64 0, .int .i64 0, .int .i64 0, .int .i64 0, .slice none 0 0]), 9, 120) := by kernel_rfl
/-- a constraint with where its lists lie -/
structure PV where
  p : PL
  va : Value
  vb : Value
  vv : Value
def PV.cells (q : PV) : List Value := [.int .i64 q.p.kind, q.va, q.vb, .int .i64 q.p.rel, .int .i64 q.p.c, .int .i64 q.p.x, .int .i64 q.p.y, .int .i64 q.p.z, q.vv]
theorem flat_at : ∀ (qs : List PV) (j r : Nat) (hj : j < qs.length), r < 9 → (qs.flatMap PV.cells)[j * 9 + r]? = qs[j].cells[r]?
  | q :: qs, 0, r, _, hr => by
    rw [List.flatMap_cons, Nat.zero_mul, Nat.zero_add, List.getElem?_append_left (by simpa [PV.cells] using hr)]; rfl
  | q :: qs, j + 1, r, hj, hr => by
    have hl : q.cells.length = 9 := rfl
    rw [List.flatMap_cons, List.getElem?_append_right (by rw [hl]; omega), hl, show (j + 1) * 9 + r - 9 = j * 9 + r by omega, flat_at qs j r (by simpa using hj) hr]
    rfl
/-- constraints in a row of the call's own; their lists lie where they did -/
def PsOwn (w W : World) (B : Nat) (v : Value) (ps : List PL) : Prop :=
  ∃ qs : List PV, qs.map PV.p = ps ∧ W.ownsRow B 30 9 v ps.length (qs.flatMap PV.cells) ∧ ∀ q ∈ qs, ∀ W', Below w.heap.size w W' → IsAt W' q.va q.p.coef ∧ IsAt W' q.vb q.p.vars ∧ IsAt W' q.vv q.p.vs
theorem PsOwn.at {w W : World} {B : Nat} {v : Value} {ps : List PL} (h : PsOwn w W B v ps) (hb : Below w.heap.size w W) : PsAt W v ps := by
  obtain ⟨qs, rfl, ow, hq⟩ := h
  obtain ⟨_, ao, cap, rfl, h2, h3, _, h4⟩ := SlAt.of_own ow
  refine ⟨ao, cap, rfl, h2, h3, fun hp => ?_⟩
  obtain ⟨b, off, rfl, hl, hc⟩ := h4 (by omega)
  refine ⟨b, off, rfl, hl, fun j hj => ?_⟩
  have hj' : j < qs.length := by simpa using hj
  have hcell : ∀ r, r < 9 → W.cell? ⟨b, off + (j * 9 + r), none⟩ = qs[j].cells[r]? := fun r hr => by
    rw [hc (j * 9 + r) (by omega), flat_at qs j r hj' hr]
  obtain ⟨i0, i1, i2⟩ := hq qs[j] (List.getElem_mem hj') W hb
  have e : (qs.map PV.p)[j] = qs[j].p := by simp
  rw [e]
  exact ⟨qs[j].va, qs[j].vb, qs[j].vv, ⟨hcell 0 (by decide), hcell 1 (by decide), hcell 2 (by decide), hcell 3 (by decide), hcell 4 (by decide), hcell 5 (by decide), hcell 6 (by decide), hcell 7 (by decide), hcell 8 (by decide)⟩, i0, i1, i2⟩
theorem PsOwn.nil {w W : World} {B : Nat} {v : Value} (h : W.ownsRow B 30 9 v 0 []) : PsOwn w W B v [] := ⟨[], rfl, h, fun q hq => by simp at hq⟩
theorem PsAt.take {w : World} {ao : Option Addr} {n cap : Nat} {ps : List PL} (h : PsAt w (.slice ao n cap) ps) (m : Nat) (hm : m ≤ ps.length) : PsAt w (.slice ao m cap) (ps.take m) := by
  obtain ⟨ao', cap', he, h1, h2, h3⟩ := h
  simp only [Value.slice.injEq] at he
  obtain ⟨rfl, rfl, rfl⟩ := he
  have hl : (ps.take m).length = m := by rw [List.length_take]; omega
  refine ⟨ao, cap, by rw [hl], by omega, h2, fun hp => ?_⟩
  obtain ⟨b, off, rfl, hb, hc⟩ := h3 (by omega)
  refine ⟨b, off, rfl, hb, fun j hj => ?_⟩
  obtain ⟨va, vb, vv, c, i0, i1, i2⟩ := hc j (by omega)
  have e : (ps.take m)[j] = ps[j]'(by omega) := by simp
  rw [e]
  exact ⟨va, vb, vv, c, i0, i1, i2⟩
theorem FixIn.sub {ds : Ds} {ps qs : List PL} (h : FixIn ds ps) (hm : ∀ q ∈ qs, q ∈ ps) (hl : qs.length ≤ ps.length) : FixIn ds qs :=
  ⟨fun p hp => h.fine p (hm p hp), fun p hp => h.ok p (hm p hp), h.n, h.dm, Nat.le_trans hl h.P⟩
theorem minus_nil' (a b : List Rg) (h : ∀ x, memL a x = true → memL b x = true) : minusL a b = [] := by
  have hN : Normal (minusL a b) := canon_normal _
  apply Classical.byContradiction
  intro hne
  obtain ⟨x, hx⟩ := normal_some hN hne
  have hx2 : memL (minusL a b) x = (inD x && (memL a x && !memL b x)) := canon_mem _ _
  rw [hx2] at hx
  cases ha : memL a x with
  | false => rw [ha] at hx; simp at hx
  | true => rw [ha, h x ha] at hx; simp at hx
theorem ones9 {a b c d e f g h i : Value} (h0 : a.oneCell' = true) (h1 : b.oneCell' = true) (h2 : c.oneCell' = true) (h3 : d.oneCell' = true) (h4 : e.oneCell' = true) (h5 : f.oneCell' = true) (h6 : g.oneCell' = true) (h7 : h.oneCell' = true) (h8 : i.oneCell' = true) : ∀ u ∈ (#[a, b, c, d, e, f, g, h, i] : Array Value).toList, u.oneCell' = true := by
  intro u hu
  simp at hu
  rcases hu with rfl | rfl | rfl | rfl | rfl | rfl | rfl | rfl | rfl <;> assumption
/-- Fix hands back nothing, or sets -/
theorem RetO.none' {w w' : World} {e : Ending} (h : RetO none w e w') : e = .returned (.tuple #[.slice none 0 0, .bool false]) ∧ Below w.heap.size w w' := by
  obtain ⟨hb, ⟨_, _, _, h1, _⟩ | ⟨_, h1⟩⟩ := h
  · cases h1
  · exact ⟨h1, hb⟩
theorem RetO.some' {w w' : World} {e : Ending} {r : Ds} {n : Nat} (h : RetO (some r) w e w') (hl : r.length = n) : ∃ ao cap, e = .returned (.tuple #[.slice ao n cap, .bool true]) ∧ DsAt w' (.slice ao n cap) r ∧ Below w.heap.size w w' := by
  obtain ⟨hb, ⟨_, ao, cap, h1, h2, h3⟩ | ⟨h1, _⟩⟩ := h
  · have h1 := Option.some.inj h1
    subst h1
    rw [hl] at h2 h3
    exact ⟨ao, cap, h2, h3, hb⟩
  · cases h1
set_option maxRecDepth 100000 in
set_option maxHeartbeats 6400000 in
theorem fixOrder_any (vds vps : Value) (ds : Ds) (ps : List PL) (z : Int) (w : World) (hd : DsAt w vds ds) (hp : PsAt w vps ps) (hz : 0 ≤ z ∧ z ≤ 255) :
    Calls Tryz.prog 7 #[vds, vps, .int .u8 z] w fun e w' => e = .returned (.bool true) ∧ Below w.heap.size w w' := by
  obtain ⟨t0, ht, hz0, hz1, hz2⟩ := info_parts Tryz.infoProp
  have CR := Lib.hid (right17_c vds vps ds ps w hd hp)
  have HD := Lib.hid hd
  have HP := Lib.hid hp
  obtain ⟨a0, c0, rfl, _⟩ := hd.shape
  obtain ⟨a1, c1, rfl, hpc⟩ := hp.shape
  clear hd hp
  cases hr : right17 ds ps with
  | false =>
    rw [hr] at CR
    have CK := Lib.hid fixCheck_p0
    go_enter Tryz.func7, Tryz.ntmps7
    go_wp2_with (first
      | (go_at_call 25; (with_reducible refine CR.out.mono ?_); rintro e W1 ⟨rfl, bb⟩; have B1 := Lib.hid bb; clear bb)
      | (go_at_call 26; (with_reducible refine (CK.out _ _).mono ?_); rintro e W2 ⟨rfl, bb⟩; have B2 := Lib.hid (B1.out.trans (bb.mono B1.out.size)); clear bb))
    go_ret
    exact ⟨rfl, B2.out⟩
  | true =>
    rw [hr] at CR
    have hin := right17_in hr
    have HIN := Lib.hid hin
    have hp300 := hin.P
    clear hr hin
    go_enter Tryz.func7, Tryz.ntmps7
    go_wp2_with (go_at_call 25; (with_reducible refine CR.out.mono ?_); rintro e W1 ⟨rfl, bb⟩; have B1 := Lib.hid bb; clear bb)
    go_loopw [7, 8] (fun o s wr => ∃ k : Nat, k ≤ ps.length ∧ s = .int .i64 ((k : Int) - 1) ∧ Hid (PsOwn w wr W1.heap.size o ((ps.drop k).reverse)) ∧ Hid (Below W1.heap.size W1 wr)) (fun _ s _ => ((intOf s) + 1).toNat)
    case atStart => exact ⟨ps.length, Nat.le_refl _, rfl, by rw [List.drop_length]; exact Lib.hid (PsOwn.nil (World.ownsRow_made W1 #[] 0 (Nat.le_refl _) (by decide) rfl)), Lib.hid ((Below.refl _ _).alloc (Nat.le_refl _) _)⟩
    case round =>
      obtain ⟨k, hk, rfl, HO, HB1⟩ := hrel
      have HBw : Hid (Below w.heap.size w wr) := B1.out.trans (HB1.out.mono B1.out.size)
      have hle1 := HB1.out.size
      cases k with
      | zero =>
        rw [List.drop_zero] at HO
        have HPT : Hid (PsAt wr u7 ps.reverse) := HO.out.at HBw.out
        obtain ⟨a7, c7, hsh, _⟩ := HPT.out.shape
        rw [List.length_reverse] at hsh
        subst hsh
        obtain ⟨W2, hW2⟩ : ∃ W2 : World, W2 = wr := ⟨_, rfl⟩
        subst hW2
        have hz0' : (((0 : Nat) : Int) - 1) = -1 := rfl
        rw [hz0']
        clear hz0' HO
        obtain ⟨R, hR⟩ := fixOf_exists (ps := ps) (D := ds) (fun p hp => (HIN.out.fine p hp).good)
        have hRr : FixOf ps.reverse ds R := fixOf_congr (fun p => by simp) hR
        have hinr : FixIn ds ps.reverse := HIN.out.sub (fun q hq => by simpa using hq) (by simp)
        obtain ⟨q, hq⟩ : ∃ q : Nat, z.tmod ((ps.length : Int) + 1) = q := Int.eq_ofNat_of_zero_le (Int.tmod_nonneg _ hz.1)
        have hql : q ≤ ps.length := by have := Int.tmod_lt_of_pos z (show (0 : Int) < (ps.length : Int) + 1 by omega); omega
        obtain ⟨R2, hR2⟩ := fixOf_exists (ps := ps.take q) (D := ds) (fun p hp => (HIN.out.fine p (List.mem_of_mem_take hp)).good)
        have hint : FixIn ds (ps.take q) := HIN.out.sub (fun p hp => List.mem_of_mem_take hp) (by rw [List.length_take]; omega)
        have CF1 : Hid (∀ W, Below W2.heap.size W2 W → Calls Tryz.prog 22 #[.slice a0 ds.length c0, .slice a1 ps.length c1] W (RetO R W)) := fun W h => fix_r (HD.out.below (HBw.out.trans (h.mono HBw.out.size))) (HP.out.below (HBw.out.trans (h.mono HBw.out.size))) HIN.out hR
        have CF2 : Hid (∀ W, Below W2.heap.size W2 W → Calls Tryz.prog 22 #[.slice a0 ds.length c0, .slice a7 ps.length c7] W (RetO R W)) := fun W h => fix_r (HD.out.below (HBw.out.trans (h.mono HBw.out.size))) (HPT.out.below h) hinr hRr
        have CG2 : Hid (∀ W, Below W2.heap.size W2 W → Calls Tryz.prog 23 #[.slice a0 ds.length c0, .slice a7 ps.length c7] W (RetO R W)) := fun W h => refFix_r (HD.out.below (HBw.out.trans (h.mono HBw.out.size))) (HPT.out.below h) hinr hRr
        have CF3 : Hid (∀ W, Below W2.heap.size W2 W → Calls Tryz.prog 22 #[.slice a0 ds.length c0, .slice a1 q c1] W (RetO R2 W)) := fun W h => fix_r (HD.out.below (HBw.out.trans (h.mono HBw.out.size))) ((HP.out.below (HBw.out.trans (h.mono HBw.out.size))).take q hql) hint hR2
        have j1 : ((q : Nat) : Int) ≤ ps.length := by omega
        have HPC := Lib.hid hpc
        obtain ⟨hpc1, hpc2⟩ := hpc
        clear CR HIN
        have CS : Hid (∀ W u v (r : Ds), r.length = ds.length → AllN r → ds.length ≤ 100 → DsAt W u r → DsAt W v r → Calls Tryz.prog 24 #[u, v] W fun e W' => e = .returned (.bool true) ∧ Below W.heap.size W W') := fun W u v r hl hN hn hu hv => (same17_c u v r r W hu hv (by omega) (allN_short' hN)).mono fun e W' ⟨h1, h2⟩ => ⟨by rw [h1]; simp, h2⟩
        cases R with
        | none =>
          have CF1' : Hid (∀ W, Below W2.heap.size W2 W → Calls Tryz.prog 22 #[.slice a0 ds.length c0, .slice a1 ps.length c1] W fun e W' => e = .returned (.tuple #[.slice none 0 0, .bool false]) ∧ Below W.heap.size W W') := fun W h => (CF1.out W h).mono fun e W' hh => hh.none'
          have CF2' : Hid (∀ W, Below W2.heap.size W2 W → Calls Tryz.prog 22 #[.slice a0 ds.length c0, .slice a7 ps.length c7] W fun e W' => e = .returned (.tuple #[.slice none 0 0, .bool false]) ∧ Below W.heap.size W W') := fun W h => (CF2.out W h).mono fun e W' hh => hh.none'
          have CG2' : Hid (∀ W, Below W2.heap.size W2 W → Calls Tryz.prog 23 #[.slice a0 ds.length c0, .slice a7 ps.length c7] W fun e W' => e = .returned (.tuple #[.slice none 0 0, .bool false]) ∧ Below W.heap.size W W') := fun W h => (CG2.out W h).mono fun e W' hh => hh.none'
          have CF3' : Hid (∀ W, Below W2.heap.size W2 W → Calls Tryz.prog 22 #[.slice a0 ds.length c0, .slice a1 q c1] W fun e W' => (∃ v b, e = .returned (.tuple #[v, .bool b])) ∧ Below W.heap.size W W') := fun W h => (CF3.out W h).mono fun e W' hh => by
            obtain ⟨hb, ⟨_, _, _, _, he, _⟩ | ⟨_, he⟩⟩ := hh
            · exact ⟨⟨_, _, he⟩, hb⟩
            · exact ⟨⟨_, _, he⟩, hb⟩
          have CS0 : Hid (∀ W, Calls Tryz.prog 24 #[.slice none 0 0, .slice none 0 0] W fun e W' => e = .returned (.bool true) ∧ Below W.heap.size W W') := fun W => (same17_c _ _ [] [] W DsAt.nil DsAt.nil (by simp) (fun d hd => by simp at hd)).mono fun e W' ⟨h1, h2⟩ => ⟨by rw [h1]; rfl, h2⟩
          clear CF1 CF2 CG2 CF3 CS hR hRr hinr hR2 hint
          go_wp2_with (first
            | (go_at_call 22; (with_reducible refine (CF1'.out _ (Below.refl _ _)).mono ?_); rintro e W3 ⟨rfl, bb⟩; have P3 := Lib.hid bb; clear bb)
            | (go_at_call 22; (with_reducible refine (CF2'.out _ P3.out).mono ?_); rintro e W4 ⟨rfl, bb⟩; have P4 := Lib.hid (P3.out.trans (bb.mono P3.out.size)); clear bb)
            | (go_at_call 23; (with_reducible refine (CG2'.out _ P4.out).mono ?_); rintro e W5 ⟨rfl, bb⟩; have P5 := Lib.hid (P4.out.trans (bb.mono P4.out.size)); clear bb)
            | (go_at_call 24; (with_reducible refine (CS0.out W5).mono ?_); rintro e W6 ⟨rfl, bb⟩; have P6 := Lib.hid (P5.out.trans (bb.mono P5.out.size)); clear bb)
            | (go_at_call 24; (with_reducible refine (CS0.out W6).mono ?_); rintro e W7 ⟨rfl, bb⟩; have P7 := Lib.hid (P6.out.trans (bb.mono P6.out.size)); clear bb)
            | (go_at_call 22; (with_reducible refine (CF3'.out _ P7.out).mono ?_); rintro e W8 ⟨⟨v8, b8, rfl⟩, bb⟩; have P8 := Lib.hid (P7.out.trans (bb.mono P7.out.size)); clear bb; cases b8))
          · go_ret
            exact ⟨rfl, HBw.out.trans (P8.out.mono HBw.out.size)⟩
          · go_loopw [17] (fun s wr => s = .int .i64 0 ∧ Hid (Below W8.heap.size W8 wr)) (fun _ _ => 0)
            case atStart => exact ⟨rfl, Lib.hid (Below.refl _ _)⟩
            case round =>
              obtain ⟨rfl, HQ⟩ := hrel
              go_wp2
              go_ret
              exact ⟨rfl, HBw.out.trans ((P8.out.trans (HQ.out.mono P8.out.size)).mono HBw.out.size)⟩
        | some r =>
          have hrl := hR.1.len
          have hrn := hR.1.nor
          obtain ⟨cc2, rfl, hle2⟩ := fixOf_part (fun p hp => List.mem_of_mem_take hp) hR hR2
          have hcl := hR2.1.len
          have hcn := hR2.1.nor
          have HRL := Lib.hid hrl
          have HRN := Lib.hid hrn
          have HCL := Lib.hid hcl
          have HCN := Lib.hid hcn
          have HLE := Lib.hid hle2
          have hn100 := hinr.n
          have CF1' : Hid (∀ W, Below W2.heap.size W2 W → Calls Tryz.prog 22 #[.slice a0 ds.length c0, .slice a1 ps.length c1] W fun e W' => ∃ ao cap, e = .returned (.tuple #[.slice ao ds.length cap, .bool true]) ∧ DsAt W' (.slice ao ds.length cap) r ∧ Below W.heap.size W W') := fun W h => (CF1.out W h).mono fun e W' hh => hh.some' hrl
          have CF2' : Hid (∀ W, Below W2.heap.size W2 W → Calls Tryz.prog 22 #[.slice a0 ds.length c0, .slice a7 ps.length c7] W fun e W' => ∃ ao cap, e = .returned (.tuple #[.slice ao ds.length cap, .bool true]) ∧ DsAt W' (.slice ao ds.length cap) r ∧ Below W.heap.size W W') := fun W h => (CF2.out W h).mono fun e W' hh => hh.some' hrl
          have CG2' : Hid (∀ W, Below W2.heap.size W2 W → Calls Tryz.prog 23 #[.slice a0 ds.length c0, .slice a7 ps.length c7] W fun e W' => ∃ ao cap, e = .returned (.tuple #[.slice ao ds.length cap, .bool true]) ∧ DsAt W' (.slice ao ds.length cap) r ∧ Below W.heap.size W W') := fun W h => (CG2.out W h).mono fun e W' hh => hh.some' hrl
          have CF3' : Hid (∀ W, Below W2.heap.size W2 W → Calls Tryz.prog 22 #[.slice a0 ds.length c0, .slice a1 q c1] W fun e W' => ∃ ao cap, e = .returned (.tuple #[.slice ao ds.length cap, .bool true]) ∧ DsAt W' (.slice ao ds.length cap) cc2 ∧ Below W.heap.size W W') := fun W h => (CF3.out W h).mono fun e W' hh => hh.some' hcl
          have CS0 : Hid (∀ W u v, DsAt W u r → DsAt W v r → Calls Tryz.prog 24 #[u, v] W fun e W' => e = .returned (.bool true) ∧ Below W.heap.size W W') := fun W u v hu hv => CS.out W u v r hrl hrn hn100 hu hv
          clear CF1 CF2 CG2 CF3 CS hR hRr hinr hR2 hint hrl hrn hcl hcn hle2
          go_wp2_with (first
            | (go_at_call 22; (with_reducible refine (CF1'.out _ (Below.refl _ _)).mono ?_); rintro e W3 ⟨a3, c3, rfl, d3, bb⟩; have D3 := Lib.hid d3; have P3 := Lib.hid bb; clear bb d3)
            | (go_at_call 22; (with_reducible refine (CF2'.out _ P3.out).mono ?_); rintro e W4 ⟨a4, c4, rfl, d4, bb⟩; have D4 := Lib.hid d4; have D34 := Lib.hid (D3.out.below bb); have P4 := Lib.hid (P3.out.trans (bb.mono P3.out.size)); clear bb d4)
            | (go_at_call 23; (with_reducible refine (CG2'.out _ P4.out).mono ?_); rintro e W5 ⟨a5, c5, rfl, d5, bb⟩; have D5 := Lib.hid d5; have D35 := Lib.hid (D34.out.below bb); have D45 := Lib.hid (D4.out.below bb); have P5 := Lib.hid (P4.out.trans (bb.mono P4.out.size)); clear bb d5)
            | (go_at_call 24; (with_reducible refine (CS0.out W5 _ _ D35.out D45.out).mono ?_); rintro e W6 ⟨rfl, bb⟩; have D36 := Lib.hid (D35.out.below bb); have D46 := Lib.hid (D45.out.below bb); have D56 := Lib.hid (D5.out.below bb); have P6 := Lib.hid (P5.out.trans (bb.mono P5.out.size)); clear bb)
            | (go_at_call 24; (with_reducible refine (CS0.out W6 _ _ D46.out D56.out).mono ?_); rintro e W7 ⟨rfl, bb⟩; have D37 := Lib.hid (D36.out.below bb); have P7 := Lib.hid (P6.out.trans (bb.mono P6.out.size)); clear bb)
            | (go_at_call 22; (with_reducible refine (CF3'.out _ P7.out).mono ?_); rintro e W8 ⟨a8, c8, rfl, d8, bb⟩; have D8 := Lib.hid d8; have D38 := Lib.hid (D37.out.below bb); have P8 := Lib.hid (P7.out.trans (bb.mono P7.out.size)); clear bb d8))
          clear D3 D34 D4 D35 D45 D5 D36 D46 D56 D37 CF1' CF2' CG2' CF3' CS0
          go_loopw [17] (fun s wr => ∃ k : Nat, k ≤ ds.length ∧ s = .int .i64 k ∧ Hid (Below W8.heap.size W8 wr)) (fun s _ => ds.length - (intOf s).toNat)
          case atStart => exact ⟨0, by omega, rfl, Lib.hid (Below.refl _ _)⟩
          case round =>
            obtain ⟨k, hk, rfl, HQ⟩ := hrel
            by_cases hlt : k < ds.length
            · have hk1 : k < cc2.length := by have := HCL.out; omega
              have hk2 : k < r.length := by have := HRL.out; omega
              obtain ⟨b6, o6, a6', c6', rfl, q1, q2, hj1, hc1, hr1⟩ := D8.out.get k hk1
              obtain ⟨b7, o7, a7', c7', rfl, q3, q4, hj2, hc2, hr2⟩ := D38.out.get k hk2
              clear hj1 hj2
              have j2 : (k : Int) < ds.length := by omega
              have j0 : (0 : Int) ≤ (k : Int) := by omega
              have HMI : Hid (minusL r[k] cc2[k] = []) := minus_nil' _ _ fun x hx => by
                have := HLE.out k x
                rw [List.getD_eq_getElem?_getD, List.getD_eq_getElem?_getD, List.getElem?_eq_getElem hk2, List.getElem?_eq_getElem hk1] at this
                exact this hx
              have hl1 : cc2[k].length ≤ 4096 := allN_short' HCN.out _ (List.getElem_mem hk1)
              have hl2 : r[k].length ≤ 4096 := allN_short' HRN.out _ (List.getElem_mem hk2)
              have CMI : Hid (∀ W, Below wr.heap.size wr W → Calls Tryz.prog 21 #[.slice a7' r[k].length c7', .slice a6' cc2[k].length c6'] W fun e w' => ∃ ao cap, e = .returned (.slice ao 0 cap) ∧ Below W.heap.size W w') := fun W h => by
                have h2 := HQ.out.trans (h.mono HQ.out.size)
                have := refMinus_c _ _ r[k] cc2[k] W (hr2.below h2) (hr1.below h2) hl2 hl1
                rw [HMI.out] at this
                exact this.mono fun e w' ⟨ao, cap, he, _, hb⟩ => ⟨ao, cap, he, hb⟩
              clear hr1 hr2
              have HSW : Hid (∀ W', Below wr.heap.size wr W' → W'.cell? ⟨b7, o7 + k, none⟩ = some (.slice a7' r[k].length c7') ∧ W'.cell? ⟨b6, o6 + k, none⟩ = some (.slice a6' cc2[k].length c6')) := fun W' h => by
                have h2 := HQ.out.trans (h.mono HQ.out.size)
                exact ⟨(h2.cell (p := ⟨b7, o7 + k, none⟩) q4).trans hc2, (h2.cell (p := ⟨b6, o6 + k, none⟩) q2).trans hc1⟩
              clear hc1 hc2 HMI hpc1 hpc2
              generalize r[k] = x' at *
              generalize cc2[k] = y' at *
              obtain ⟨s0, s1⟩ := HSW.out wr (Below.refl _ _)
              go_wp2
              go_region_held3 (fun W' => W'.cell? ⟨b7, o7 + k, none⟩ = some (.slice a7' x'.length c7') ∧ W'.cell? ⟨b6, o6 + k, none⟩ = some (.slice a6' y'.length c6')) ((first | exact HSW.out _ BW.out | (refine HSW.out _ ?_; go_grown)))
                (first | (go_at_call 21; refine (CMI.out _ ?_).mono ?_; (· go_grown); rintro e W4 ⟨a9, c9, rfl, bb⟩; have bw : Below wr.heap.size wr W4 := Below.trans (by go_grown) bb; have BW := Lib.hid bw; clear bb bw))
              all_goals
                go_wp2
                exact ⟨⟨k + 1, by omega, by go_num, Lib.hid (HQ.out.trans (BW.out.mono HQ.out.size))⟩, by simp [intOf]; omega⟩
            · go_wp2
              go_ret
              exact ⟨rfl, HBw.out.trans ((P8.out.trans (HQ.out.mono P8.out.size)).mono HBw.out.size)⟩
      | succ m =>
        obtain ⟨b1, o1, va, vb, vv, rfl, q1, cc, i0, i1, i2⟩ := HP.out.get m (by omega)
        have hm : m < ps.length := by omega
        have j1 : (m : Int) < ps.length := by omega
        have j0 : (0 : Int) ≤ (m : Int) := by omega
        have hcast : (((m + 1 : Nat) : Int) - 1) = (m : Int) := by omega
        rw [hcast]
        obtain ⟨x0, x1, x2, x3, x4, x5, x6, x7, x8⟩ := cc.below q1 HBw.out
        have HIS : Hid (∀ W', Below w.heap.size w W' → IsAt W' va ps[m].coef ∧ IsAt W' vb ps[m].vars ∧ IsAt W' vv ps[m].vs) := fun W' h => ⟨i0.below h, i1.below h, i2.below h⟩
        have HDR : Hid ((ps.drop m).reverse = (ps.drop (m + 1)).reverse ++ [ps[m]]) := by show _ = _; rw [List.drop_eq_getElem_cons hm, List.reverse_cons]
        obtain ⟨qs, hqs, ow, hqi⟩ := HO.out
        have HQS := Lib.hid hqs
        have HQI := Lib.hid hqi
        have hln : ((ps.drop (m + 1)).reverse).length ≤ 300 := by simp; omega
        have OW := Lib.hid ow
        clear i0 i1 i2 cc hcast hqs hqi ow HO
        generalize (ps.drop (m + 1)).reverse = T0 at *
        generalize ps[m] = p at *
        clear hm
        obtain ⟨b3, n3, rfl, _⟩ := SlAt.shape (HIS.out wr HBw.out).1
        obtain ⟨b4, n4, rfl, _⟩ := SlAt.shape (HIS.out wr HBw.out).2.1
        obtain ⟨b5, n5, rfl, _⟩ := SlAt.shape (HIS.out wr HBw.out).2.2
        go_wp2_with (at_builtin; refine wpList_appendK rfl (.tmp 34) (.tmp 39) 46 rfl W1.heap.size 30 t0 (.agg #[.int .i64 0, .slice none 0 0, .slice none 0 0, .int .i64 0, .int .i64 0, .int .i64 0, .int .i64 0, .int .i64 0, .slice none 0 0]) 9 120 Tryz.underlying46 ht hz0 hz1 hz2 rfl (by decide) _ _ _ rfl OW.out _ rfl rfl (ones9 rfl rfl rfl rfl rfl rfl rfl rfl rfl) (by omega) hle1 ?_; intro v1 w1 ow1 bw1 kw1 _)
        refine ⟨⟨m, by omega, rfl, ?_, Lib.hid (HB1.out.trans bw1)⟩, by first | (simp [intOf]; done) | (simp [intOf]; omega)⟩
        rw [HDR.out]
        refine Lib.hid ⟨qs ++ [⟨p, .slice b3 p.coef.length n3, .slice b4 p.vars.length n4, .slice b5 p.vs.length n5⟩], by rw [List.map_append, HQS.out]; rfl, ?_, fun q hq => ?_⟩
        · rw [List.length_append, List.length_singleton, List.flatMap_append]
          exact ow1
        · rcases List.mem_append.1 hq with h1 | h1
          · exact HQI.out q h1
          · rw [List.mem_singleton.1 h1]; exact HIS.out
end Go.Proofs.YtajooiainglpmaaGreat
