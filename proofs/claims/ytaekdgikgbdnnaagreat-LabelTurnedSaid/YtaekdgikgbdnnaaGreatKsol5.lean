/-
  label.begin, walked, where it may begin.
  LISTS OF LISTS OF INTEGERS in memory; whether two are the same, walked.
  label.Solve, walked, where it may begin.
-/
import Derived.Test.YtaekdgikgbdnnaaGreatKsol4
import Derived.Test.YtaekdgikgbdnnaaGreatKflaw1
import Derived.Test.YtaekdgikgbdnnaaGreatKonce1
import Derived.Test.YtaekdgikgbdnnaaGreatKrel1
import Derived.Test.YtaekdgikgbdnnaaGreatKlin2
import Derived.Test.YtaekdgikgbdnnaaGreatKlib1
import Derived.Deep.QuietTactic
import Derived.BigQuiet
import Derived.WalkKit
import Derived.TacticsInMore
import Derived.Maps.OwnIn
namespace Go.Proofs.YtaekdgikgbdnnaaGreat
open Go.RowKit

def labOdd (n : Nat) (v : Int) : Bool := decide (v < 0) || decide ((n : Int) ≤ v)
set_option maxRecDepth 100000 in
theorem labOdd_any (bx : Nat) (ao : Option Addr) (n cap : Nat) (v : Int) (w : World) (hc : w.cell? ⟨bx, 0, none⟩ = some (.slice ao n cap)) :
    Calls Tryz.prog 40 #[.int .i64 v, .pointer (some ⟨bx, 0, none⟩)] w fun e w' => e = .returned (.bool (labOdd n v)) ∧ w = w' := by
  unfold labOdd
  by_cases h : v < 0
  · go_enter Tryz.func40, Tryz.ntmps40
    go_wp2
    go_ret
    exact ⟨ret_bool (by simp [h]), rfl⟩
  · go_enter Tryz.func40, Tryz.ntmps40
    go_wp2
    go_ret
    exact ⟨ret_bool (by simp; omega), rfl⟩
set_option maxRecDepth 100000 in
set_option maxHeartbeats 400000 in
theorem idxLabOdd_any (bx : Nat) (ao : Option Addr) (n cap : Nat) (v : Value) (zs : List Int) (w : World) (hc : w.cell? ⟨bx, 0, none⟩ = some (.slice ao n cap)) (h : IsAt w v zs) (hl : zs.length ≤ 4097) :
    Calls Tryz.prog 61 #[v, .func (.func 40) #[] #[.pointer (some ⟨bx, 0, none⟩)]] w fun e w' => e = .returned (.int .i64 (findI (labOdd n) zs)) ∧ w = w' := by
  obtain ⟨av, cv, rfl, _⟩ := IsAt.shape' h
  have H := Lib.hid h
  have HC := Lib.hid hc
  clear h hc
  go_enter Tryz.func61, Tryz.ntmps61
  go_wp2
  go_loop [8] (fun i => ∃ k : Nat, k ≤ zs.length ∧ i = .int .i64 k ∧ (zs.take k).any (labOdd n) = false) (fun i => zs.length - (intOf i).toNat)
  case atStart => exact ⟨0, by omega, rfl, by simp⟩
  case round =>
    obtain ⟨k, hk, rfl, hnot⟩ := hrel
    have HN := Lib.hid hnot
    clear hnot
    by_cases hlt : k < zs.length
    · obtain ⟨b, off, rfl, _, _, hcell⟩ := IsAt.getR H.out k hlt
      obtain ⟨z, hz⟩ : ∃ z, z = zs[k] := ⟨_, rfl⟩
      rw [← hz] at hcell
      cases ho : labOdd n z with
      | true =>
        have HF := Lib.hid (findIdx_hit (labOdd n) zs k hlt HN.out (by rw [← hz]; exact ho))
        have CO : Hid (Calls Tryz.prog 40 #[.int .i64 z, .pointer (some ⟨bx, 0, none⟩)] w fun e w' => e = .returned (.bool true) ∧ w = w') := by rw [← ho]; exact labOdd_any bx ao n cap z w HC.out
        clear hz ho
        go_wp2_with (first | (go_at_call 40; ((with_reducible refine CO.out.mono ?_); rintro e w' ⟨rfl, rfl⟩)))
        go_ret
        exact ⟨ret_int HF.out.symm, rfl⟩
      | false =>
        have HF := Lib.hid (any_take_step (labOdd n) zs k hlt HN.out (by rw [← hz]; exact ho))
        have CO : Hid (Calls Tryz.prog 40 #[.int .i64 z, .pointer (some ⟨bx, 0, none⟩)] w fun e w' => e = .returned (.bool false) ∧ w = w') := by rw [← ho]; exact labOdd_any bx ao n cap z w HC.out
        clear hz ho
        go_wp2_with (first | (go_at_call 40; ((with_reducible refine CO.out.mono ?_); rintro e w' ⟨rfl, rfl⟩)))
        go_round
        case rel => exact ⟨k + 1, by omega, by go_num, HF.out⟩
        case measure => simp [intOf]; omega
    · have HF : Hid (findI (labOdd n) zs = -1) := findIdx_none (labOdd n) zs (by have := HN.out; rwa [List.take_of_length_le (by omega)] at this)
      go_wp2
      go_ret
      exact ⟨ret_int HF.out.symm, rfl⟩
set_option maxHeartbeats 400000 in
theorem containsLabOdd_any (bx : Nat) (ao : Option Addr) (n cap : Nat) (v : Value) (zs : List Int) (w : World) (hc : w.cell? ⟨bx, 0, none⟩ = some (.slice ao n cap)) (h : IsAt w v zs) (hl : zs.length ≤ 4097) :
    Calls Tryz.prog 41 #[v, .func (.func 40) #[] #[.pointer (some ⟨bx, 0, none⟩)]] w fun e w' => e = .returned (.bool (zs.any (labOdd n))) ∧ w = w' := by
  have CI := Lib.hid (idxLabOdd_any bx ao n cap v zs w hc h hl)
  clear h hc
  go_enter Tryz.func41, Tryz.ntmps41
  go_wp2_with (first | (go_at_call 61; ((with_reducible refine CI.out.mono ?_); rintro e w' ⟨rfl, rfl⟩)))
  go_ret
  exact ⟨ret_bool (findI_nonneg _ _), rfl⟩

theorem srch_made (W : World) (vps vv vw : Value) (sel ord br k : Int) (T : TypeId) : Srch (W.alloc (.cells #[vps, vv, .int .i64 sel, .int .i64 ord, .int .i64 br, vw, .int .i64 k, .bool false] T)) W.heap.size vps vv sel ord br vw k false := by
  have h := BoxL.mk' W #[vps, vv, .int .i64 sel, .int .i64 ord, .int .i64 br, vw, .int .i64 k, .bool false] T
  exact ⟨(h.get 0 rfl).1, (h.get 1 rfl).1, (h.get 2 rfl).1, (h.get 3 rfl).1, (h.get 4 rfl).1, (h.get 5 rfl).1, (h.get 6 rfl).1, (h.get 7 rfl).1, (h.get 6 rfl).2, (h.get 7 rfl).2⟩

set_option maxRecDepth 100000 in
set_option maxHeartbeats 1600000 in
theorem begin_ok (vds vps vv vw : Value) (sel ord br : Int) (ds : Ds) (ps : List PL) (vars ws : List Int) (most nodes : Int) (w : World) (hd : DsAt w vds ds) (hp : PsAt w vps ps) (hv : IsAt w vv vars) (hw : IsAt w vw ws)
    (hok : ∀ p ∈ ps, p.ok) (hlc : labChk sel ord br ws.length = 0) (hfc : fixChk ds.length ps = 0) (hvl : vars.length ≤ 64) (hvi : ∀ v ∈ vars, 0 ≤ v ∧ v.toNat < ds.length) (h1 : 1 ≤ most) (h2 : most ≤ 1000) (h3 : 1 ≤ nodes) (h4 : nodes ≤ 10000) :
    Calls Tryz.prog 26 #[vds, vps, vv, .agg #[.int .i64 sel, .int .i64 ord, .int .i64 br, vw], .int .i64 most, .int .i64 nodes] w fun e w' =>
      ∃ sb, e = .returned (.tuple #[.pointer (some ⟨sb, 0, none⟩), .int .i64 0]) ∧ w.heap.size ≤ sb ∧ Srch w' sb vps vv sel ord br vw nodes false ∧ Below w.heap.size w w' := by
  obtain ⟨a0, c0, rfl, _⟩ := hd.shape
  obtain ⟨a1, c1, rfl, _⟩ := hp.shape
  obtain ⟨a2, c2, rfl, _⟩ := hv.shape'
  obtain ⟨a3, c3, rfl, _⟩ := hw.shape'
  have hany : vars.any (labOdd ds.length) = false := by
    rw [List.any_eq_false]
    intro v hm
    have := hvi v hm
    unfold labOdd; simp; omega
  have HA1 : Hid (Below w.heap.size w (w.alloc (.cells #[.slice a0 ds.length c0] 22))) := (Below.refl _ _).alloc (Nat.le_refl _) _
  obtain ⟨W0, hW0⟩ : ∃ W0, W0 = (w.alloc (.cells #[.slice a0 ds.length c0] 22)).alloc (.cells #[.int .i64 sel, .int .i64 ord, .int .i64 br, .slice a3 ws.length c3] 28) := ⟨_, rfl⟩
  have B0 : Hid (Below w.heap.size w W0) := by rw [hW0]; exact HA1.out.alloc HA1.out.size _
  have hB1 : BoxL W0 (w.heap.size + 1) [.int .i64 sel, .int .i64 ord, .int .i64 br, .slice a3 ws.length c3] := by
    have := BoxL.mk' (w.alloc (.cells #[.slice a0 ds.length c0] 22)) #[.int .i64 sel, .int .i64 ord, .int .i64 br, .slice a3 ws.length c3] 28
    rw [hW0]
    rwa [show (w.alloc (.cells #[.slice a0 ds.length c0] 22)).heap.size = w.heap.size + 1 by simp] at this
  have HB1 := Lib.hid hB1
  have hbl1 := hB1.lt (by simp)
  have hx0 : W0.cell? ⟨w.heap.size, 0, none⟩ = some (.slice a0 ds.length c0) := by
    rw [hW0]
    exact Lib.cell?_alloc_some _ ((BoxL.mk' w #[.slice a0 ds.length c0] 22).get 0 rfl).1
  have HX0 := Lib.hid hx0
  have CL := Lib.hid (labCheck_c sel ord br a3 ws.length c3 W0)
  have CF : Hid (∀ W, Below W0.heap.size W0 W → Calls Tryz.prog 39 #[.slice a0 ds.length c0, .slice a1 ps.length c1] W fun e w' => e = .returned (.int .i64 0) ∧ Below W.heap.size W w') := fun W h => by
    have hb := B0.out.trans (h.mono B0.out.size)
    have := fixCheck_c (.slice a0 ds.length c0) (.slice a1 ps.length c1) ds ps W (hd.below hb) (hp.below hb) (fun j hj => hok _ (List.getElem_mem hj))
    rwa [hfc] at this
  have CO : Hid (∀ W, Below W0.heap.size W0 W → Calls Tryz.prog 41 #[.slice a2 vars.length c2, .func (.func 40) #[] #[.pointer (some ⟨w.heap.size, 0, none⟩)]] W fun e w' => e = .returned (.bool false) ∧ W = w') := fun W h => by
    have := containsLabOdd_any w.heap.size a0 ds.length c0 (.slice a2 vars.length c2) vars W ((h.cell (p := ⟨w.heap.size, 0, none⟩) (by dsimp only; omega)).trans HX0.out) (hv.below (B0.out.trans (h.mono B0.out.size))) (by omega)
    rwa [hany] at this
  rw [hlc] at CL
  obtain ⟨l0, _⟩ := hB1.get 0 rfl
  obtain ⟨l1, _⟩ := hB1.get 1 rfl
  obtain ⟨l2, _⟩ := hB1.get 2 rfl
  obtain ⟨l3, _⟩ := hB1.get 3 rfl
  have HWE := Lib.hid hW0
  clear hd hp hv hw hok hlc hfc hvi hany hW0 HA1 hB1
  go_enter Tryz.func26, Tryz.ntmps26
  go_upto_region 1 with fail
  rw [← HWE.out]
  go_wp2_with (first
    | (go_at_call 12; (with_reducible refine CL.out.mono ?_); rintro e W1 ⟨rfl, b1⟩; have B1 := Lib.hid b1; have y0 := (b1.cell (p := ⟨w.heap.size, 0, none⟩) (by dsimp only; omega)).trans hx0; clear b1)
    | (go_at_call 39; (with_reducible refine (CF.out _ B1.out).mono ?_); rintro e W2 ⟨rfl, b2⟩; have B2 := Lib.hid (B1.out.trans (b2.mono B1.out.size)); obtain ⟨m0, _⟩ := (HB1.out.below B2.out hbl1).get 0 rfl; obtain ⟨m1, _⟩ := (HB1.out.below B2.out hbl1).get 1 rfl; obtain ⟨m2, _⟩ := (HB1.out.below B2.out hbl1).get 2 rfl; obtain ⟨m3, _⟩ := (HB1.out.below B2.out hbl1).get 3 rfl; clear b2)
    | (go_at_call 41; (with_reducible refine (CO.out _ B2.out).mono ?_); rintro e w' ⟨rfl, rfl⟩))
  go_ret2
  have hb := B0.out.trans (B2.out.mono B0.out.size)
  exact ⟨W2.heap.size, rfl, hb.size, srch_made W2 _ _ _ sel ord br nodes _, hb.alloc hb.size _⟩
end Go.Proofs.YtaekdgikgbdnnaaGreat
namespace Go.Proofs.YtaekdgikgbdnnaaGreat
open Go.RowKit

def LsAt (w : World) (v : Value) (L : List (List Int)) : Prop :=
  ∃ us : List Value, us.length = L.length ∧ SlAt w 1 v L.length us ∧ ∀ j, (hj : j < L.length) → ∃ u, us[j]? = some u ∧ IsAt w u L[j]
theorem LsAt.below {w w' : World} {v : Value} {L : List (List Int)} (h : LsAt w v L) (hb : Below w.heap.size w w') : LsAt w' v L := by
  obtain ⟨us, h1, h2, h3⟩ := h
  exact ⟨us, h1, h2.below hb, fun j hj => by obtain ⟨u, a, b⟩ := h3 j hj; exact ⟨u, a, b.below hb⟩⟩
theorem LsAt.shape {w : World} {v : Value} {L : List (List Int)} (h : LsAt w v L) : ∃ ao cap, v = .slice ao L.length cap ∧ L.length ≤ cap ∧ cap ≤ maxLen := by
  obtain ⟨us, h1, h2, h3⟩ := h; exact h2.shape
theorem LsAt.nil {w : World} : LsAt w (.slice none 0 0) [] := ⟨[], rfl, SlAt.nil, fun j hj => by simp at hj⟩
theorem LsAt.get {w : World} {ao : Option Addr} {n cap : Nat} {L : List (List Int)} (h : LsAt w (.slice ao n cap) L) (j : Nat) (hj : j < L.length) :
    ∃ b off ao' cap', ao = some ⟨b, off, none⟩ ∧ L.length ≤ cap ∧ b < w.heap.size ∧ w.cell? ⟨b, off + j, none⟩ = some (.slice ao' L[j].length cap') ∧ IsAt w (.slice ao' L[j].length cap') L[j] := by
  obtain ⟨us, h1, h2, h3⟩ := h
  obtain ⟨b, off, cap', he, a1, _, a2, a3⟩ := SlAt.pos h2 (by omega)
  simp only [Value.slice.injEq] at he
  obtain ⟨rfl, rfl, rfl⟩ := he
  obtain ⟨u, e1, e2⟩ := h3 j hj
  have hc := a3 j (by omega)
  rw [e1] at hc
  obtain ⟨ao', c', rfl, _⟩ := SlAt.shape e2
  exact ⟨b, off, ao', c', rfl, a1, a2, hc, e2⟩

/-- one that hangs on blocks from B on alone -/
def LsFrom (B : Nat) (w : World) (v : Value) (L : List (List Int)) : Prop :=
  ∃ us : List Value, us.length = L.length ∧ SlAt w 1 v L.length us ∧ (∀ b, v.ownBlock = some b → B ≤ b) ∧ ∀ j, (hj : j < L.length) → ∃ u, us[j]? = some u ∧ IsAt w u L[j] ∧ ∀ b, u.ownBlock = some b → B ≤ b
theorem LsFrom.at {B : Nat} {w : World} {v : Value} {L : List (List Int)} (h : LsFrom B w v L) : LsAt w v L := by
  obtain ⟨us, h1, h2, _, h4⟩ := h
  exact ⟨us, h1, h2, fun j hj => by obtain ⟨u, a, b, _⟩ := h4 j hj; exact ⟨u, a, b⟩⟩
theorem SlAt.from {w w' : World} {k : Nat} {v : Value} {n : Nat} {xs : List Value} (h : SlAt w k v n xs) (hs : w.heap.size ≤ w'.heap.size) (hb : ∀ b, b < w.heap.size → v.ownBlock = some b → w'.heap[b]? = w.heap[b]?) : SlAt w' k v n xs := by
  obtain ⟨h1, ao, cap, rfl, h2, h3, h5, h4⟩ := h
  refine ⟨h1, ao, cap, rfl, h2, h3, h5, fun hp => ?_⟩
  obtain ⟨b, off, rfl, hlt, hc⟩ := h4 hp
  refine ⟨b, off, rfl, Nat.lt_of_lt_of_le hlt hs, fun j hj => ?_⟩
  rw [← hc j hj]
  exact World.cell?_of_block (a := ⟨b, off + j, none⟩) (hb b hlt rfl)
theorem LsFrom.on {B : Nat} {W W' : World} {v : Value} {L : List (List Int)} (h : LsFrom B W v L) (hs : W.heap.size ≤ W'.heap.size) (hb : ∀ b, B ≤ b → b < W.heap.size → W'.heap[b]? = W.heap[b]?) : LsFrom B W' v L := by
  obtain ⟨us, h1, h2, h3, h4⟩ := h
  exact ⟨us, h1, h2.from hs (fun b hb' e => hb b (h3 b e) hb'), h3, fun j hj => by
    obtain ⟨u, a, b, c⟩ := h4 j hj
    exact ⟨u, a, SlAt.from b hs (fun b' hb' e => hb b' (c b' e) hb'), c⟩⟩

/-! ### one that grows by append -/
theorem IsAt.keptBut {w w' : World} {v u : Value} {d : List Int} (h : IsAt w u d) (hk : KeepsBut w w' v) (hs : w.heap.size ≤ w'.heap.size) (ha : d ≠ [] → Apart u v) : IsAt w' u d := by
  obtain ⟨h1, ao, cap, rfl, h2, h3, h5, h4⟩ := h
  refine ⟨h1, ao, cap, rfl, h2, h3, h5, fun hp => ?_⟩
  obtain ⟨b, off, rfl, hlt, hc⟩ := h4 hp
  have hne : d ≠ [] := by rintro rfl; simp at hp
  have e := hk b hlt (ha hne b rfl)
  exact ⟨b, off, rfl, by omega, fun j hj => (World.cell?_of_block (a := ⟨b, off + j, none⟩) e).trans (hc j hj)⟩
theorem IsAt.blk {w : World} {u : Value} {d : List Int} (h : IsAt w u d) (hne : d ≠ []) : ∀ b, u.ownBlock = some b → b < w.heap.size := fun b hb => by
  obtain ⟨h1, ao, cap, rfl, h2, h3, h5, h4⟩ := h
  have hp : 0 < d.length * 1 := by have := List.length_pos_iff.2 hne; omega
  obtain ⟨b', off, rfl, hlt, hc⟩ := h4 hp
  simp [Value.ownBlock] at hb; omega
def LsApp (w : World) (base : Nat) (v : Value) (L : List (List Int)) (us : List Value) : Prop :=
  us.length = L.length ∧ w.ownsRow base 26 1 v L.length us ∧ ∀ j, (hj : j < L.length) → ∃ u, us[j]? = some u ∧ IsAt w u L[j] ∧ (L[j] ≠ [] → Apart u v)
theorem LsApp.at {w : World} {base : Nat} {v : Value} {L : List (List Int)} {us : List Value} (h : LsApp w base v L us) : LsAt w v L :=
  ⟨us, h.1, SlAt.of_own h.2.1, fun j hj => by obtain ⟨u, a, b, _⟩ := h.2.2 j hj; exact ⟨u, a, b⟩⟩
theorem LsApp.below {w w' : World} {base : Nat} {v : Value} {L : List (List Int)} {us : List Value} (h : LsApp w base v L us) (hb : Below w.heap.size w w') : LsApp w' base v L us :=
  ⟨h.1, own_below h.2.1 hb, fun j hj => by obtain ⟨u, a, b, c⟩ := h.2.2 j hj; exact ⟨u, a, b.below hb, c⟩⟩
theorem LsApp.nil {w : World} {base : Nat} {v : Value} (h : w.ownsRow base 26 1 v 0 []) : LsApp w base v [] [] := ⟨rfl, h, fun j hj => by simp at hj⟩
theorem LsApp.push {w w' : World} {base : Nat} {v : Value} {L : List (List Int)} {us : List Value} (h : LsApp w base v L us) {u : Value} {d : List Int} (hu : IsAt w u d) (ha : d ≠ [] → Apart u v) {g cap : Nat}
    (ho : w'.ownsRow base 26 1 (.slice (some ⟨g, 0, none⟩) (L.length + 1) cap) (L.length + 1) (us ++ [u])) (hk : KeepsBut w w' v) (hs : w.heap.size ≤ w'.heap.size) (hg : v.ownBlock = some g ∨ w.heap.size ≤ g) :
    LsApp w' base (.slice (some ⟨g, 0, none⟩) (L.length + 1) cap) (L ++ [d]) (us ++ [u]) := by
  have hap : ∀ {x : Value} {r : List Int}, IsAt w x r → (r ≠ [] → Apart x v) → (r ≠ [] → Apart x (.slice (some ⟨g, 0, none⟩) (L.length + 1) cap)) := fun {x r} hx h0 hne b hb he => by
    have hb' : g = b := by simpa [Value.ownBlock] using he
    subst hb'
    rcases hg with h1 | h1
    · exact h0 hne g hb h1
    · have := hx.blk hne g hb; omega
  refine ⟨by simp [h.1], by rw [List.length_append]; exact ho, fun j hj => ?_⟩
  rw [List.length_append, List.length_singleton] at hj
  by_cases hjl : j < L.length
  · obtain ⟨x, a, b, c⟩ := h.2.2 j hjl
    refine ⟨x, by rw [List.getElem?_append_left (by rw [h.1]; exact hjl)]; exact a, ?_, ?_⟩
    · rw [List.getElem_append_left hjl]; exact b.keptBut hk hs c
    · rw [List.getElem_append_left hjl]; exact hap b c
  · obtain rfl : j = L.length := by omega
    refine ⟨u, by rw [List.getElem?_append_right (by rw [h.1]; exact Nat.le_refl _), h.1]; simp, ?_, ?_⟩
    · rw [List.getElem_append_right (Nat.le_refl _)]; simp; exact hu.keptBut hk hs ha
    · rw [List.getElem_append_right (Nat.le_refl _)]; simp; exact hap hu ha

/-! ### are they the same? -/
set_option maxRecDepth 100000 in
theorem sameInts_c (va vb : Value) (x y : List Int) (w : World) (ha : IsAt w va x) (hb : IsAt w vb y) (hl : x.length ≤ 4096) :
    Calls Tryz.prog 20 #[va, vb] w fun e w' => e = .returned (.bool (decide (x = y))) ∧ Below w.heap.size w w' := by
  obtain ⟨ao, cap, rfl, _⟩ := SlAt.shape ha
  obtain ⟨ao2, cap2, rfl, _⟩ := SlAt.shape hb
  have HA := Lib.hid ha
  have HB := Lib.hid hb
  clear ha hb
  by_cases h1 : x.length = y.length
  case neg =>
    have hne : ((x.length : Int) != y.length) = true := by simp; omega
    have H1 := Lib.hid h1
    clear h1
    go_enter Tryz.func20, Tryz.ntmps20
    go_wp2
    go_ret
    exact ⟨ret_bool (by symm; simp; intro h; exact H1.out (by rw [h])), Below.refl _ _⟩
  case pos =>
    have H1 := Lib.hid h1
    have hne : ((x.length : Int) != y.length) = false := by rw [h1]; simp
    clear h1
    go_enter Tryz.func20, Tryz.ntmps20
    go_wp2
    go_loopw [5] (fun s wr => ∃ k : Nat, k ≤ x.length ∧ s = .int .i64 k ∧ Hid (x.take k = y.take k) ∧ Hid (Below w.heap.size w wr)) (fun s _ => x.length - (intOf s).toNat)
    case atStart => exact ⟨0, by omega, rfl, rfl, Lib.hid (Below.refl _ _)⟩
    case round =>
      obtain ⟨k, hk, rfl, HE, HW⟩ := hrel
      by_cases hlt : k < x.length
      · have hly : k < y.length := by have := H1.out; omega
        obtain ⟨b1, o1, rfl, q1, q2, hc1⟩ := IsAt.getR (HA.out.below HW.out) k hlt
        obtain ⟨b2, o2, rfl, q3, q4, hc2⟩ := IsAt.getR (HB.out.below HW.out) k hly
        have j1 : (k : Int) < x.length := by omega
        have j2 : (k : Int) < y.length := by omega
        have HS : Hid (x[k] = y[k] → x.take (k + 1) = y.take (k + 1)) := fun h => by
          rw [List.take_succ_eq_append_getElem hlt, List.take_succ_eq_append_getElem hly, HE.out, h]
        have HN : Hid (x[k] ≠ y[k] → x ≠ y) := fun h he => by subst he; exact h rfl
        generalize x[k] = p at *
        generalize y[k] = q at *
        by_cases hpq : p = q
        · have hb : (p != q) = false := by simp [hpq]
          have HS2 := Lib.hid (HS.out hpq)
          clear HS HN
          go_wp2
          go_quiet (fail)
          go_wp2
          exact ⟨⟨k + 1, by omega, by go_num, HS2, Lib.hid (below_drewN HW.out _)⟩, by simp [intOf]; omega⟩
        · have hb : (p != q) = true := by simp [hpq]
          have HN2 := Lib.hid (HN.out hpq)
          clear HS HN
          go_wp2
          go_quiet (fail)
          go_wp2
          go_ret
          exact ⟨ret_bool (by symm; simp; exact HN2.out), below_drewN HW.out _⟩
      · obtain rfl : k = x.length := by omega
        have HT : Hid (x = y) := by
          have h := HE.out
          rw [List.take_length, H1.out, List.take_length] at h
          exact h
        go_wp2
        go_ret
        exact ⟨ret_bool (by symm; simp; exact HT.out), HW.out⟩
set_option maxRecDepth 100000 in
theorem sames_c (va vb : Value) (x y : List (List Int)) (w : World) (ha : LsAt w va x) (hb : LsAt w vb y) (hl : x.length ≤ 4096) (hll : ∀ z ∈ x, z.length ≤ 4096) :
    Calls Tryz.prog 18 #[va, vb] w fun e w' => e = .returned (.bool (decide (x = y))) ∧ Below w.heap.size w w' := by
  obtain ⟨ao, cap, rfl, _⟩ := ha.shape
  obtain ⟨ao2, cap2, rfl, _⟩ := hb.shape
  have HA := Lib.hid ha
  have HB := Lib.hid hb
  have HLL := Lib.hid hll
  clear ha hb hll
  by_cases h1 : x.length = y.length
  case neg =>
    have hne : ((x.length : Int) != y.length) = true := by simp; omega
    have H1 := Lib.hid h1
    clear h1
    go_enter Tryz.func18, Tryz.ntmps18
    go_wp2
    go_ret
    exact ⟨ret_bool (by symm; simp; intro h; exact H1.out (by rw [h])), Below.refl _ _⟩
  case pos =>
    have H1 := Lib.hid h1
    have hne : ((x.length : Int) != y.length) = false := by rw [h1]; simp
    clear h1
    go_enter Tryz.func18, Tryz.ntmps18
    go_wp2
    go_loopw [5] (fun s wr => ∃ k : Nat, k ≤ x.length ∧ s = .int .i64 k ∧ Hid (x.take k = y.take k) ∧ Hid (Below w.heap.size w wr)) (fun s _ => x.length - (intOf s).toNat)
    case atStart => exact ⟨0, by omega, rfl, rfl, Lib.hid (Below.refl _ _)⟩
    case round =>
      obtain ⟨k, hk, rfl, HE, HW⟩ := hrel
      have hle := HW.out.size
      by_cases hlt : k < x.length
      · have hly : k < y.length := by have := H1.out; omega
        obtain ⟨b1, o1, a1, c1, rfl, q1, q2, hc1, i1⟩ := (HA.out.below HW.out).get k hlt
        obtain ⟨b2, o2, a2, c2, rfl, q3, q4, hc2, i2⟩ := (HB.out.below HW.out).get k hly
        have j1 : (k : Int) < x.length := by omega
        have j2 : (k : Int) < y.length := by omega
        have HS : Hid (x[k] = y[k] → x.take (k + 1) = y.take (k + 1)) := fun h => by
          rw [List.take_succ_eq_append_getElem hlt, List.take_succ_eq_append_getElem hly, HE.out, h]
        have HN : Hid (x[k] ≠ y[k] → x ≠ y) := fun h he => by subst he; exact h rfl
        have CS0 : ∀ g : QG wr, Calls Tryz.prog 20 #[.slice a1 x[k].length c1, .slice a2 y[k].length c2] g.1 fun e w' => e = .returned (.bool (decide (x[k] = y[k]))) ∧ Below g.1.heap.size g.1 w' := fun g => sameInts_c _ _ _ _ g.1 (i1.below g.2) (i2.below g.2) (HLL.out _ (List.getElem_mem hlt))
        have y1 := qb_cell hc1
        have y2 := qb_cell hc2
        clear i1 i2 hc1 hc2
        generalize x[k] = p at *
        generalize y[k] = q at *
        by_cases hpq : p = q
        · have hdec : decide (p = q) = true := decide_eq_true hpq
          rw [hdec] at CS0
          have CS := Lib.hid CS0
          have HS2 := Lib.hid (HS.out hpq)
          clear HS HN CS0 hdec hpq
          go_wp2
          refine wp_region_below (by kernel_rfl) (by kernel_rfl) ?_
          repeat (go_big_quiet_step ((go_at_call 20; with_reducible exact qb_call _ (CS.out _))))
          refine wpQuiet_nil ?_
          intro w1 hw1
          clear y1 y2
          go_wp2
          exact ⟨⟨k + 1, by omega, by go_num, HS2, Lib.hid (HW.out.trans (hw1.below.mono hle))⟩, by simp [intOf]; omega⟩
        · have hdec : decide (p = q) = false := decide_eq_false hpq
          rw [hdec] at CS0
          have CS := Lib.hid CS0
          have HN2 := Lib.hid (HN.out hpq)
          clear HS HN CS0 hdec hpq
          go_wp2
          refine wp_region_below (by kernel_rfl) (by kernel_rfl) ?_
          repeat (go_big_quiet_step ((go_at_call 20; with_reducible exact qb_call _ (CS.out _))))
          refine wpQuiet_nil ?_
          intro w1 hw1
          clear y1 y2
          go_wp2
          go_ret
          exact ⟨ret_bool (by symm; simp; exact HN2.out), HW.out.trans (hw1.below.mono hle)⟩
      · obtain rfl : k = x.length := by omega
        have HT : Hid (x = y) := by
          have h := HE.out
          rw [List.take_length, H1.out, List.take_length] at h
          exact h
        go_wp2
        go_ret
        exact ⟨ret_bool (by symm; simp; exact HT.out), HW.out⟩
end Go.Proofs.YtaekdgikgbdnnaaGreat
namespace Go.Proofs.YtaekdgikgbdnnaaGreat
open Go.RowKit

set_option maxRecDepth 100000 in
theorem answers_c (sb : Nat) (vds : Value) (w : World) (ao : Option Addr) (n cap : Nat) (hv : vds = .slice ao n cap) :
    Calls Tryz.prog 27 #[.pointer (some ⟨sb, 0, none⟩), vds] w fun e w' => e = .returned (.func (.func 42) #[] #[.pointer (some ⟨w.heap.size + 1, 0, none⟩), .pointer (some ⟨w.heap.size, 0, none⟩)]) ∧
      w'.cell? ⟨w.heap.size, 0, none⟩ = some (.pointer (some ⟨sb, 0, none⟩)) ∧ w'.cell? ⟨w.heap.size + 1, 0, none⟩ = some vds ∧ Below w.heap.size w w' ∧ w'.heap.size = w.heap.size + 2 := by
  subst hv
  go_enter Tryz.func27, Tryz.ntmps27
  go_wp2
  go_ret
  refine ⟨rfl, Lib.cell?_alloc_some _ ((BoxL.mk' w #[.pointer (some ⟨sb, 0, none⟩)] _).get 0 rfl).1, ?_, ((Below.refl _ w).alloc (Nat.le_refl _) _).alloc (by simp) _, by simp⟩
  have h : ∀ T, ((w.alloc (.cells #[.pointer (some ⟨sb, 0, none⟩)] T)).alloc (.cells #[.slice ao n cap] 22)).cell? ⟨w.heap.size + 1, 0, none⟩ = some (.slice ao n cap) := fun T => by
    have h := ((BoxL.mk' (w.alloc (.cells #[.pointer (some ⟨sb, 0, none⟩)] T)) #[.slice ao n cap] 22).get 0 rfl).1
    rw [show (w.alloc (.cells #[.pointer (some ⟨sb, 0, none⟩)] T)).heap.size = w.heap.size + 1 by simp] at h
    exact h
  exact h _

/-- what the loop over the answers has gathered -/
structure OutW (n0 ob bm : Nat) (most : Int) (W : World) (pre : List (Value × List Int)) (M : Nat → Prop) : Prop where
  row : ∃ v, W.cell? ⟨ob, 0, none⟩ = some v ∧ W.frozen? ⟨ob, 0, none⟩ = false ∧ W.ownsRow (ob + 1) 26 1 v pre.length (pre.map Prod.fst) ∧ (∀ b, v.ownBlock = some b → M b) ∧
    ∀ x ∈ pre, IsAt W x.1 x.2 ∧ ∀ b, x.1.ownBlock = some b → (M b ∧ v.ownBlock ≠ some b ∧ b ≠ ob) ∧ n0 ≤ b
  mc : W.cell? ⟨bm, 0, none⟩ = some (.int .i64 most)
  mo : M ob
  mb : M bm
  lo : bm < ob
  nb : n0 ≤ bm
  lt : ∀ b, M b → b < W.heap.size
theorem OutW.rest {n0 ob bm : Nat} {most : Int} {W W' : World} {pre : List (Value × List Int)} {M : Nat → Prop} (h : OutW n0 ob bm most W pre M) (hs : W.heap.size ≤ W'.heap.size) (hb : ∀ b, M b → W'.heap[b]? = W.heap[b]?) : OutW n0 ob bm most W' pre M := by
  obtain ⟨v, h1, h2, h3, h4, h5⟩ := h.row
  exact { h with
    row := ⟨v, (World.cell?_of_block (a := ⟨ob, 0, none⟩) (hb ob h.mo)).trans h1, (World.frozen?_of_block (a := ⟨ob, 0, none⟩) (hb ob h.mo)).trans h2, own_block h3 (fun b e => hb b (h4 b e)), h4,
      fun x hx => ⟨SlAt.ownB (h5 x hx).1 hs (fun b _ e => hb b ((h5 x hx).2 b e).1.1), (h5 x hx).2⟩⟩
    mc := (World.cell?_of_block (a := ⟨bm, 0, none⟩) (hb bm h.mb)).trans h.mc
    lt := fun b hm => Nat.lt_of_lt_of_le (h.lt b hm) hs }
theorem OutW.ls {n0 ob bm : Nat} {most : Int} {W : World} {pre : List (Value × List Int)} {M : Nat → Prop} (h : OutW n0 ob bm most W pre M) : ∃ ao cap, W.cell? ⟨ob, 0, none⟩ = some (.slice ao pre.length cap) ∧ LsFrom n0 W (.slice ao pre.length cap) (pre.map Prod.snd) := by
  obtain ⟨v, h1, _, h3, _, h5⟩ := h.row
  obtain ⟨ao, cap, rfl, _⟩ := (SlAt.of_own h3).shape
  refine ⟨ao, cap, h1, pre.map Prod.fst, by simp, by rw [List.length_map]; exact SlAt.of_own h3, fun b e => by have := (own_lt h3 e).2; have := h.lo; have := h.nb; omega, fun j hj => ?_⟩
  rw [List.length_map] at hj
  refine ⟨pre[j].1, by rw [List.getElem?_map, List.getElem?_eq_getElem hj]; rfl, ?_⟩
  rw [List.getElem_map]
  exact ⟨(h5 _ (List.getElem_mem hj)).1, fun b e => ((h5 _ (List.getElem_mem hj)).2 b e).2⟩
/-- behind one round: the answer is put behind the others -/
theorem OutW.push {n0 ob bm : Nat} {most : Int} {W w1 : World} {pre : List (Value × List Int)} {M : Nat → Prop} {v : Value} (h : OutW n0 ob bm most W pre M) (hc : W.cell? ⟨ob, 0, none⟩ = some v)
    {x : Value × List Int} (hx : GotI n0 x W) (hown : ∀ b, ownI x b → b < W.heap.size ∧ ¬ M b) {T : TypeId} {g cap : Nat}
    (ho : w1.ownsRow (ob + 1) 26 1 (.slice (some ⟨g, 0, none⟩) (pre.length + 1) cap) (pre.length + 1) (pre.map Prod.fst ++ [x.1])) (hg : (W.alloc (.cells #[x.1] T)).grownBy w1 v.ownBlock)
    (hl : (Value.slice (some ⟨g, 0, none⟩) (pre.length + 1) cap).ownBlock = v.ownBlock ∨ (Value.slice (some ⟨g, 0, none⟩) (pre.length + 1) cap).ownBlock = some (W.alloc (.cells #[x.1] T)).heap.size) :
    ∃ M' : Nat → Prop, (∀ b, M' b → (M b ∨ ownI x b) ∨ W.heap.size ≤ b) ∧ Agr (fun b => M b ∨ ownI x b) W (w1.setCell ⟨ob, 0, none⟩ (.slice (some ⟨g, 0, none⟩) (pre.length + 1) cap)) ∧
      OutW n0 ob bm most (w1.setCell ⟨ob, 0, none⟩ (.slice (some ⟨g, 0, none⟩) (pre.length + 1) cap)) (pre ++ [x]) M' := by
  obtain ⟨v0, h1, h2, h3, h4, h5⟩ := h.row
  rw [hc] at h1
  injection h1 with h1
  subst h1
  have hsz : (W.alloc (.cells #[x.1] T)).heap.size = W.heap.size + 1 := by simp
  have hs1 : W.heap.size + 1 ≤ w1.heap.size := by rw [← hsz]; exact hg.size
  obtain ⟨hsS, hbS⟩ := setCell_blk w1 ⟨ob, 0, none⟩ (.slice (some ⟨g, 0, none⟩) (pre.length + 1) cap)
  have hob := h.lt ob h.mo
  have hbm := h.lt bm h.mb
  have hal : ∀ b, b < W.heap.size → (W.alloc (.cells #[x.1] T)).heap[b]? = W.heap[b]? := fun b hb => Below.heap_alloc W _ b hb
  have hw1 : ∀ b, b < W.heap.size → v.ownBlock ≠ some b → w1.heap[b]? = W.heap[b]? := fun b hb hne => (hg.block b (by omega) (fun e => hne e.symm)).trans (hal b hb)
  have hg' : v.ownBlock = some g ∨ W.heap.size ≤ g := by
    rcases hl with e | e
    · exact .inl e.symm
    · right
      have : some g = some (W.alloc (.cells #[x.1] T)).heap.size := e
      injection this with this
      omega
  have hgob : ob + 1 ≤ g := (own_lt ho (b := g) rfl).2
  have hglt := (own_lt ho (b := g) rfl).1
  have hvob : v.ownBlock ≠ some ob := fun e => by have := (own_lt h3 e).2; omega
  have hvbm : v.ownBlock ≠ some bm := fun e => by have := (own_lt h3 e).2; have := h.lo; omega
  have hxne : ∀ b, ownI x b → b ≠ ob ∧ v.ownBlock ≠ some b := fun b e => ⟨fun e' => (hown b e).2 (e' ▸ h.mo), fun e' => (hown b e).2 (h4 b e')⟩
  have keepX : ∀ y : Value × List Int, IsAt W y.1 y.2 → (∀ b, y.1.ownBlock = some b → v.ownBlock ≠ some b ∧ b ≠ ob) → IsAt (w1.setCell ⟨ob, 0, none⟩ (.slice (some ⟨g, 0, none⟩) (pre.length + 1) cap)) y.1 y.2 := fun y hy hn =>
    SlAt.ownB hy (by omega) (fun b hb e => (hbS b (hn b e).2).trans (hw1 b hb (hn b e).1))
  refine ⟨fun b => M b ∨ ownI x b ∨ b = g, fun b hb => ?_, ⟨?_, fun b hb hn => ?_⟩, ?_⟩
  · rcases hb with e | e | rfl
    · exact .inl (.inl e)
    · exact .inl (.inr e)
    · rcases hg' with e | e
      · exact .inl (.inl (h4 b e))
      · exact .inr e
  · exact (((Below.refl 0 W).alloc (Nat.zero_le _) _).grown hg (Nat.zero_le _) (fun _ _ => Nat.zero_le _)).setCell (p := ⟨ob, 0, none⟩) (Nat.zero_le _) _
  · exact (hbS b (fun e => hn (.inl (by dsimp only at e; rw [e]; exact h.mo)))).trans (hw1 b hb (fun e => hn (.inl (h4 b e))))
  · refine ⟨⟨_, World.cell?_setCell_same _ _ _ (u := v) ((World.cell?_of_block (a := ⟨ob, 0, none⟩) (hw1 ob hob hvob)).trans hc), ?_, ?_, fun b e => ?_, fun y hy => ?_⟩, ?_, .inl h.mo, .inl h.mb, h.lo, h.nb, fun b hb => ?_⟩
    · rw [World.frozen?_setCell]; exact (World.frozen?_of_block (a := ⟨ob, 0, none⟩) (hw1 ob hob hvob)).trans h2
    · rw [List.length_append, List.map_append]
      exact own_block ho (fun b e => hbS b (fun e' => by
        have : some g = some b := e
        injection this with this
        dsimp only at e'; omega))
    · have : some g = some b := e
      injection this with this
      exact .inr (.inr this.symm)
    · have hcase : y ∈ pre ∨ y = x := by simpa using hy
      rcases hcase with hy | rfl
      · refine ⟨keepX y (h5 y hy).1 (fun b e => ((h5 y hy).2 b e).1.2), fun b e => ⟨⟨.inl ((h5 y hy).2 b e).1.1, fun e' => ?_, ((h5 y hy).2 b e).1.2.2⟩, ((h5 y hy).2 b e).2⟩⟩
        have e2 : some g = some b := e'
        injection e2 with e2
        subst e2
        rcases hg' with e3 | e3
        · exact ((h5 y hy).2 _ e).1.2.1 e3
        · have := h.lt _ ((h5 y hy).2 _ e).1.1; omega
      · refine ⟨keepX y hx.1 (fun b e => ⟨(hxne b e).2, (hxne b e).1⟩), fun b e => ⟨⟨.inr (.inl e), fun e' => ?_, (hxne b e).1⟩, hx.2 b e⟩⟩
        have e2 : some g = some b := e'
        injection e2 with e2
        subst e2
        rcases hg' with e3 | e3
        · exact (hxne _ e).2 e3
        · have := (hown _ e).1; omega
    · exact (World.cell?_of_block (a := ⟨bm, 0, none⟩) ((hbS bm (fun e => by have := h.lo; dsimp only at e; omega)).trans (hw1 bm hbm hvbm))).trans h.mc
    · rw [hsS]
      rcases hb with e | e | rfl
      · have := h.lt b e; omega
      · have := (hown b e).1; omega
      · exact hglt
end Go.Proofs.YtaekdgikgbdnnaaGreat
