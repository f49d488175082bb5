/-
  LISTS OF LISTS OF INTEGERS in memory; whether two are the same, walked.
  label.Solve, walked, where it may begin.
  label.Solve, walked, where it may begin.
  PLAIN LAWS of the search from the leftmost variable on: its answers stand in order; no program.
-/
import Derived.Test.YtaekdgikgbdnnaaGreatKrel1
import Derived.Test.YtaekdgikgbdnnaaGreatKlin2
import Derived.Test.YtaekdgikgbdnnaaGreatKlib1
import Derived.Deep.QuietTactic
import Derived.BigQuiet
import Derived.Test.YtaekdgikgbdnnaaGreatKsol5
import Derived.WalkKit
import Derived.TacticsInMore
import Derived.Maps.OwnIn
import Derived.Test.YtaekdgikgbdnnaaGreatKsol4
namespace Go.Proofs.YtaekdgikgbdnnaaGreat
open Go.RowKit

def LsAt (w : World) (v : Value) (L : List (List Int)) : Prop :=
  ∃ us : List Value, us.length = L.length ∧ SlAt w 1 v L.length us ∧ ∀ j, (hj : j < L.length) → ∃ u, us[j]? = some u ∧ IsAt w u L[j]
theorem LsAt.below {w w' : World} {v : Value} {L : List (List Int)} (h : LsAt w v L) (hb : Below w.heap.size w w') : LsAt w' v L := by
  obtain ⟨us, h1, h2, h3⟩ := h
  exact ⟨us, h1, h2.below hb, fun j hj => by obtain ⟨u, a, b⟩ := h3 j hj; exact ⟨u, a, b.below hb⟩⟩
theorem LsAt.shape {w : World} {v : Value} {L : List (List Int)} (h : LsAt w v L) : ∃ ao cap, v = .slice ao L.length cap ∧ L.length ≤ cap ∧ cap ≤ maxLen := by
  obtain ⟨us, h1, h2, h3⟩ := h; exact h2.shape
theorem LsAt.nil {w : World} : LsAt w (.slice none 0 0) [] := ⟨[], rfl, SlAt.nil, fun j hj => by simp at hj⟩
theorem LsAt.get {w : World} {ao : Option Addr} {n cap : Nat} {L : List (List Int)} (h : LsAt w (.slice ao n cap) L) (j : Nat) (hj : j < L.length) :
    ∃ b off ao' cap', ao = some ⟨b, off, none⟩ ∧ L.length ≤ cap ∧ b < w.heap.size ∧ w.cell? ⟨b, off + j, none⟩ = some (.slice ao' L[j].length cap') ∧ IsAt w (.slice ao' L[j].length cap') L[j] := by
  obtain ⟨us, h1, h2, h3⟩ := h
  obtain ⟨b, off, cap', he, a1, _, a2, a3⟩ := SlAt.pos h2 (by omega)
  simp only [Value.slice.injEq] at he
  obtain ⟨rfl, rfl, rfl⟩ := he
  obtain ⟨u, e1, e2⟩ := h3 j hj
  have hc := a3 j (by omega)
  rw [e1] at hc
  obtain ⟨ao', c', rfl, _⟩ := SlAt.shape e2
  exact ⟨b, off, ao', c', rfl, a1, a2, hc, e2⟩

/-- one that hangs on blocks from B on alone -/
def LsFrom (B : Nat) (w : World) (v : Value) (L : List (List Int)) : Prop :=
  ∃ us : List Value, us.length = L.length ∧ SlAt w 1 v L.length us ∧ (∀ b, v.ownBlock = some b → B ≤ b) ∧ ∀ j, (hj : j < L.length) → ∃ u, us[j]? = some u ∧ IsAt w u L[j] ∧ ∀ b, u.ownBlock = some b → B ≤ b
theorem LsFrom.at {B : Nat} {w : World} {v : Value} {L : List (List Int)} (h : LsFrom B w v L) : LsAt w v L := by
  obtain ⟨us, h1, h2, _, h4⟩ := h
  exact ⟨us, h1, h2, fun j hj => by obtain ⟨u, a, b, _⟩ := h4 j hj; exact ⟨u, a, b⟩⟩
theorem SlAt.from {w w' : World} {k : Nat} {v : Value} {n : Nat} {xs : List Value} (h : SlAt w k v n xs) (hs : w.heap.size ≤ w'.heap.size) (hb : ∀ b, b < w.heap.size → v.ownBlock = some b → w'.heap[b]? = w.heap[b]?) : SlAt w' k v n xs := by
  obtain ⟨h1, ao, cap, rfl, h2, h3, h5, h4⟩ := h
  refine ⟨h1, ao, cap, rfl, h2, h3, h5, fun hp => ?_⟩
  obtain ⟨b, off, rfl, hlt, hc⟩ := h4 hp
  refine ⟨b, off, rfl, Nat.lt_of_lt_of_le hlt hs, fun j hj => ?_⟩
  rw [← hc j hj]
  exact World.cell?_of_block (a := ⟨b, off + j, none⟩) (hb b hlt rfl)
theorem LsFrom.on {B : Nat} {W W' : World} {v : Value} {L : List (List Int)} (h : LsFrom B W v L) (hs : W.heap.size ≤ W'.heap.size) (hb : ∀ b, B ≤ b → b < W.heap.size → W'.heap[b]? = W.heap[b]?) : LsFrom B W' v L := by
  obtain ⟨us, h1, h2, h3, h4⟩ := h
  exact ⟨us, h1, h2.from hs (fun b hb' e => hb b (h3 b e) hb'), h3, fun j hj => by
    obtain ⟨u, a, b, c⟩ := h4 j hj
    exact ⟨u, a, SlAt.from b hs (fun b' hb' e => hb b' (c b' e) hb'), c⟩⟩

/-! ### one that grows by append -/
theorem IsAt.keptBut {w w' : World} {v u : Value} {d : List Int} (h : IsAt w u d) (hk : KeepsBut w w' v) (hs : w.heap.size ≤ w'.heap.size) (ha : d ≠ [] → Apart u v) : IsAt w' u d := by
  obtain ⟨h1, ao, cap, rfl, h2, h3, h5, h4⟩ := h
  refine ⟨h1, ao, cap, rfl, h2, h3, h5, fun hp => ?_⟩
  obtain ⟨b, off, rfl, hlt, hc⟩ := h4 hp
  have hne : d ≠ [] := by rintro rfl; simp at hp
  have e := hk b hlt (ha hne b rfl)
  exact ⟨b, off, rfl, by omega, fun j hj => (World.cell?_of_block (a := ⟨b, off + j, none⟩) e).trans (hc j hj)⟩
theorem IsAt.blk {w : World} {u : Value} {d : List Int} (h : IsAt w u d) (hne : d ≠ []) : ∀ b, u.ownBlock = some b → b < w.heap.size := fun b hb => by
  obtain ⟨h1, ao, cap, rfl, h2, h3, h5, h4⟩ := h
  have hp : 0 < d.length * 1 := by have := List.length_pos_iff.2 hne; omega
  obtain ⟨b', off, rfl, hlt, hc⟩ := h4 hp
  simp [Value.ownBlock] at hb; omega
def LsApp (w : World) (base : Nat) (v : Value) (L : List (List Int)) (us : List Value) : Prop :=
  us.length = L.length ∧ w.ownsRow base 26 1 v L.length us ∧ ∀ j, (hj : j < L.length) → ∃ u, us[j]? = some u ∧ IsAt w u L[j] ∧ (L[j] ≠ [] → Apart u v)
theorem LsApp.at {w : World} {base : Nat} {v : Value} {L : List (List Int)} {us : List Value} (h : LsApp w base v L us) : LsAt w v L :=
  ⟨us, h.1, SlAt.of_own h.2.1, fun j hj => by obtain ⟨u, a, b, _⟩ := h.2.2 j hj; exact ⟨u, a, b⟩⟩
theorem LsApp.below {w w' : World} {base : Nat} {v : Value} {L : List (List Int)} {us : List Value} (h : LsApp w base v L us) (hb : Below w.heap.size w w') : LsApp w' base v L us :=
  ⟨h.1, own_below h.2.1 hb, fun j hj => by obtain ⟨u, a, b, c⟩ := h.2.2 j hj; exact ⟨u, a, b.below hb, c⟩⟩
theorem LsApp.nil {w : World} {base : Nat} {v : Value} (h : w.ownsRow base 26 1 v 0 []) : LsApp w base v [] [] := ⟨rfl, h, fun j hj => by simp at hj⟩
theorem LsApp.push {w w' : World} {base : Nat} {v : Value} {L : List (List Int)} {us : List Value} (h : LsApp w base v L us) {u : Value} {d : List Int} (hu : IsAt w u d) (ha : d ≠ [] → Apart u v) {g cap : Nat}
    (ho : w'.ownsRow base 26 1 (.slice (some ⟨g, 0, none⟩) (L.length + 1) cap) (L.length + 1) (us ++ [u])) (hk : KeepsBut w w' v) (hs : w.heap.size ≤ w'.heap.size) (hg : v.ownBlock = some g ∨ w.heap.size ≤ g) :
    LsApp w' base (.slice (some ⟨g, 0, none⟩) (L.length + 1) cap) (L ++ [d]) (us ++ [u]) := by
  have hap : ∀ {x : Value} {r : List Int}, IsAt w x r → (r ≠ [] → Apart x v) → (r ≠ [] → Apart x (.slice (some ⟨g, 0, none⟩) (L.length + 1) cap)) := fun {x r} hx h0 hne b hb he => by
    have hb' : g = b := by simpa [Value.ownBlock] using he
    subst hb'
    rcases hg with h1 | h1
    · exact h0 hne g hb h1
    · have := hx.blk hne g hb; omega
  refine ⟨by simp [h.1], by rw [List.length_append]; exact ho, fun j hj => ?_⟩
  rw [List.length_append, List.length_singleton] at hj
  by_cases hjl : j < L.length
  · obtain ⟨x, a, b, c⟩ := h.2.2 j hjl
    refine ⟨x, by rw [List.getElem?_append_left (by rw [h.1]; exact hjl)]; exact a, ?_, ?_⟩
    · rw [List.getElem_append_left hjl]; exact b.keptBut hk hs c
    · rw [List.getElem_append_left hjl]; exact hap b c
  · obtain rfl : j = L.length := by omega
    refine ⟨u, by rw [List.getElem?_append_right (by rw [h.1]; exact Nat.le_refl _), h.1]; simp, ?_, ?_⟩
    · rw [List.getElem_append_right (Nat.le_refl _)]; simp; exact hu.keptBut hk hs ha
    · rw [List.getElem_append_right (Nat.le_refl _)]; simp; exact hap hu ha

/-! ### are they the same? -/
set_option maxRecDepth 100000 in
theorem sameInts_c (va vb : Value) (x y : List Int) (w : World) (ha : IsAt w va x) (hb : IsAt w vb y) (hl : x.length ≤ 4096) :
    Calls Tryz.prog 20 #[va, vb] w fun e w' => e = .returned (.bool (decide (x = y))) ∧ Below w.heap.size w w' := by
  obtain ⟨ao, cap, rfl, _⟩ := SlAt.shape ha
  obtain ⟨ao2, cap2, rfl, _⟩ := SlAt.shape hb
  have HA := Lib.hid ha
  have HB := Lib.hid hb
  clear ha hb
  by_cases h1 : x.length = y.length
  case neg =>
    have hne : ((x.length : Int) != y.length) = true := by simp; omega
    have H1 := Lib.hid h1
    clear h1
    go_enter Tryz.func20, Tryz.ntmps20
    go_wp2
    go_ret
    exact ⟨ret_bool (by symm; simp; intro h; exact H1.out (by rw [h])), Below.refl _ _⟩
  case pos =>
    have H1 := Lib.hid h1
    have hne : ((x.length : Int) != y.length) = false := by rw [h1]; simp
    clear h1
    go_enter Tryz.func20, Tryz.ntmps20
    go_wp2
    go_loopw [5] (fun s wr => ∃ k : Nat, k ≤ x.length ∧ s = .int .i64 k ∧ Hid (x.take k = y.take k) ∧ Hid (Below w.heap.size w wr)) (fun s _ => x.length - (intOf s).toNat)
    case atStart => exact ⟨0, by omega, rfl, rfl, Lib.hid (Below.refl _ _)⟩
    case round =>
      obtain ⟨k, hk, rfl, HE, HW⟩ := hrel
      by_cases hlt : k < x.length
      · have hly : k < y.length := by have := H1.out; omega
        obtain ⟨b1, o1, rfl, q1, q2, hc1⟩ := IsAt.getR (HA.out.below HW.out) k hlt
        obtain ⟨b2, o2, rfl, q3, q4, hc2⟩ := IsAt.getR (HB.out.below HW.out) k hly
        have j1 : (k : Int) < x.length := by omega
        have j2 : (k : Int) < y.length := by omega
        have HS : Hid (x[k] = y[k] → x.take (k + 1) = y.take (k + 1)) := fun h => by
          rw [List.take_succ_eq_append_getElem hlt, List.take_succ_eq_append_getElem hly, HE.out, h]
        have HN : Hid (x[k] ≠ y[k] → x ≠ y) := fun h he => by subst he; exact h rfl
        generalize x[k] = p at *
        generalize y[k] = q at *
        by_cases hpq : p = q
        · have hb : (p != q) = false := by simp [hpq]
          have HS2 := Lib.hid (HS.out hpq)
          clear HS HN
          go_wp2
          go_quiet (fail)
          go_wp2
          exact ⟨⟨k + 1, by omega, by go_num, HS2, Lib.hid (below_drewN HW.out _)⟩, by simp [intOf]; omega⟩
        · have hb : (p != q) = true := by simp [hpq]
          have HN2 := Lib.hid (HN.out hpq)
          clear HS HN
          go_wp2
          go_quiet (fail)
          go_wp2
          go_ret
          exact ⟨ret_bool (by symm; simp; exact HN2.out), below_drewN HW.out _⟩
      · obtain rfl : k = x.length := by omega
        have HT : Hid (x = y) := by
          have h := HE.out
          rw [List.take_length, H1.out, List.take_length] at h
          exact h
        go_wp2
        go_ret
        exact ⟨ret_bool (by symm; simp; exact HT.out), HW.out⟩
set_option maxRecDepth 100000 in
theorem sames_c (va vb : Value) (x y : List (List Int)) (w : World) (ha : LsAt w va x) (hb : LsAt w vb y) (hl : x.length ≤ 4096) (hll : ∀ z ∈ x, z.length ≤ 4096) :
    Calls Tryz.prog 18 #[va, vb] w fun e w' => e = .returned (.bool (decide (x = y))) ∧ Below w.heap.size w w' := by
  obtain ⟨ao, cap, rfl, _⟩ := ha.shape
  obtain ⟨ao2, cap2, rfl, _⟩ := hb.shape
  have HA := Lib.hid ha
  have HB := Lib.hid hb
  have HLL := Lib.hid hll
  clear ha hb hll
  by_cases h1 : x.length = y.length
  case neg =>
    have hne : ((x.length : Int) != y.length) = true := by simp; omega
    have H1 := Lib.hid h1
    clear h1
    go_enter Tryz.func18, Tryz.ntmps18
    go_wp2
    go_ret
    exact ⟨ret_bool (by symm; simp; intro h; exact H1.out (by rw [h])), Below.refl _ _⟩
  case pos =>
    have H1 := Lib.hid h1
    have hne : ((x.length : Int) != y.length) = false := by rw [h1]; simp
    clear h1
    go_enter Tryz.func18, Tryz.ntmps18
    go_wp2
    go_loopw [5] (fun s wr => ∃ k : Nat, k ≤ x.length ∧ s = .int .i64 k ∧ Hid (x.take k = y.take k) ∧ Hid (Below w.heap.size w wr)) (fun s _ => x.length - (intOf s).toNat)
    case atStart => exact ⟨0, by omega, rfl, rfl, Lib.hid (Below.refl _ _)⟩
    case round =>
      obtain ⟨k, hk, rfl, HE, HW⟩ := hrel
      have hle := HW.out.size
      by_cases hlt : k < x.length
      · have hly : k < y.length := by have := H1.out; omega
        obtain ⟨b1, o1, a1, c1, rfl, q1, q2, hc1, i1⟩ := (HA.out.below HW.out).get k hlt
        obtain ⟨b2, o2, a2, c2, rfl, q3, q4, hc2, i2⟩ := (HB.out.below HW.out).get k hly
        have j1 : (k : Int) < x.length := by omega
        have j2 : (k : Int) < y.length := by omega
        have HS : Hid (x[k] = y[k] → x.take (k + 1) = y.take (k + 1)) := fun h => by
          rw [List.take_succ_eq_append_getElem hlt, List.take_succ_eq_append_getElem hly, HE.out, h]
        have HN : Hid (x[k] ≠ y[k] → x ≠ y) := fun h he => by subst he; exact h rfl
        have CS0 : ∀ g : QG wr, Calls Tryz.prog 20 #[.slice a1 x[k].length c1, .slice a2 y[k].length c2] g.1 fun e w' => e = .returned (.bool (decide (x[k] = y[k]))) ∧ Below g.1.heap.size g.1 w' := fun g => sameInts_c _ _ _ _ g.1 (i1.below g.2) (i2.below g.2) (HLL.out _ (List.getElem_mem hlt))
        have y1 := qb_cell hc1
        have y2 := qb_cell hc2
        clear i1 i2 hc1 hc2
        generalize x[k] = p at *
        generalize y[k] = q at *
        by_cases hpq : p = q
        · have hdec : decide (p = q) = true := decide_eq_true hpq
          rw [hdec] at CS0
          have CS := Lib.hid CS0
          have HS2 := Lib.hid (HS.out hpq)
          clear HS HN CS0 hdec hpq
          go_wp2
          refine wp_region_below (by kernel_rfl) (by kernel_rfl) ?_
          repeat (go_big_quiet_step ((go_at_call 20; with_reducible exact qb_call _ (CS.out _))))
          refine wpQuiet_nil ?_
          intro w1 hw1
          clear y1 y2
          go_wp2
          exact ⟨⟨k + 1, by omega, by go_num, HS2, Lib.hid (HW.out.trans (hw1.below.mono hle))⟩, by simp [intOf]; omega⟩
        · have hdec : decide (p = q) = false := decide_eq_false hpq
          rw [hdec] at CS0
          have CS := Lib.hid CS0
          have HN2 := Lib.hid (HN.out hpq)
          clear HS HN CS0 hdec hpq
          go_wp2
          refine wp_region_below (by kernel_rfl) (by kernel_rfl) ?_
          repeat (go_big_quiet_step ((go_at_call 20; with_reducible exact qb_call _ (CS.out _))))
          refine wpQuiet_nil ?_
          intro w1 hw1
          clear y1 y2
          go_wp2
          go_ret
          exact ⟨ret_bool (by symm; simp; exact HN2.out), HW.out.trans (hw1.below.mono hle)⟩
      · obtain rfl : k = x.length := by omega
        have HT : Hid (x = y) := by
          have h := HE.out
          rw [List.take_length, H1.out, List.take_length] at h
          exact h
        go_wp2
        go_ret
        exact ⟨ret_bool (by symm; simp; exact HT.out), HW.out⟩
end Go.Proofs.YtaekdgikgbdnnaaGreat
namespace Go.Proofs.YtaekdgikgbdnnaaGreat
open Go.RowKit

set_option maxRecDepth 100000 in
theorem answers_c (sb : Nat) (vds : Value) (w : World) (ao : Option Addr) (n cap : Nat) (hv : vds = .slice ao n cap) :
    Calls Tryz.prog 27 #[.pointer (some ⟨sb, 0, none⟩), vds] w fun e w' => e = .returned (.func (.func 42) #[] #[.pointer (some ⟨w.heap.size + 1, 0, none⟩), .pointer (some ⟨w.heap.size, 0, none⟩)]) ∧
      w'.cell? ⟨w.heap.size, 0, none⟩ = some (.pointer (some ⟨sb, 0, none⟩)) ∧ w'.cell? ⟨w.heap.size + 1, 0, none⟩ = some vds ∧ Below w.heap.size w w' ∧ w'.heap.size = w.heap.size + 2 := by
  subst hv
  go_enter Tryz.func27, Tryz.ntmps27
  go_wp2
  go_ret
  refine ⟨rfl, Lib.cell?_alloc_some _ ((BoxL.mk' w #[.pointer (some ⟨sb, 0, none⟩)] _).get 0 rfl).1, ?_, ((Below.refl _ w).alloc (Nat.le_refl _) _).alloc (by simp) _, by simp⟩
  have h : ∀ T, ((w.alloc (.cells #[.pointer (some ⟨sb, 0, none⟩)] T)).alloc (.cells #[.slice ao n cap] 22)).cell? ⟨w.heap.size + 1, 0, none⟩ = some (.slice ao n cap) := fun T => by
    have h := ((BoxL.mk' (w.alloc (.cells #[.pointer (some ⟨sb, 0, none⟩)] T)) #[.slice ao n cap] 22).get 0 rfl).1
    rw [show (w.alloc (.cells #[.pointer (some ⟨sb, 0, none⟩)] T)).heap.size = w.heap.size + 1 by simp] at h
    exact h
  exact h _

/-- what the loop over the answers has gathered -/
structure OutW (n0 ob bm : Nat) (most : Int) (W : World) (pre : List (Value × List Int)) (M : Nat → Prop) : Prop where
  row : ∃ v, W.cell? ⟨ob, 0, none⟩ = some v ∧ W.frozen? ⟨ob, 0, none⟩ = false ∧ W.ownsRow (ob + 1) 26 1 v pre.length (pre.map Prod.fst) ∧ (∀ b, v.ownBlock = some b → M b) ∧
    ∀ x ∈ pre, IsAt W x.1 x.2 ∧ ∀ b, x.1.ownBlock = some b → (M b ∧ v.ownBlock ≠ some b ∧ b ≠ ob) ∧ n0 ≤ b
  mc : W.cell? ⟨bm, 0, none⟩ = some (.int .i64 most)
  mo : M ob
  mb : M bm
  lo : bm < ob
  nb : n0 ≤ bm
  lt : ∀ b, M b → b < W.heap.size
theorem OutW.rest {n0 ob bm : Nat} {most : Int} {W W' : World} {pre : List (Value × List Int)} {M : Nat → Prop} (h : OutW n0 ob bm most W pre M) (hs : W.heap.size ≤ W'.heap.size) (hb : ∀ b, M b → W'.heap[b]? = W.heap[b]?) : OutW n0 ob bm most W' pre M := by
  obtain ⟨v, h1, h2, h3, h4, h5⟩ := h.row
  exact { h with
    row := ⟨v, (World.cell?_of_block (a := ⟨ob, 0, none⟩) (hb ob h.mo)).trans h1, (World.frozen?_of_block (a := ⟨ob, 0, none⟩) (hb ob h.mo)).trans h2, own_block h3 (fun b e => hb b (h4 b e)), h4,
      fun x hx => ⟨SlAt.ownB (h5 x hx).1 hs (fun b _ e => hb b ((h5 x hx).2 b e).1.1), (h5 x hx).2⟩⟩
    mc := (World.cell?_of_block (a := ⟨bm, 0, none⟩) (hb bm h.mb)).trans h.mc
    lt := fun b hm => Nat.lt_of_lt_of_le (h.lt b hm) hs }
theorem OutW.ls {n0 ob bm : Nat} {most : Int} {W : World} {pre : List (Value × List Int)} {M : Nat → Prop} (h : OutW n0 ob bm most W pre M) : ∃ ao cap, W.cell? ⟨ob, 0, none⟩ = some (.slice ao pre.length cap) ∧ LsFrom n0 W (.slice ao pre.length cap) (pre.map Prod.snd) := by
  obtain ⟨v, h1, _, h3, _, h5⟩ := h.row
  obtain ⟨ao, cap, rfl, _⟩ := (SlAt.of_own h3).shape
  refine ⟨ao, cap, h1, pre.map Prod.fst, by simp, by rw [List.length_map]; exact SlAt.of_own h3, fun b e => by have := (own_lt h3 e).2; have := h.lo; have := h.nb; omega, fun j hj => ?_⟩
  rw [List.length_map] at hj
  refine ⟨pre[j].1, by rw [List.getElem?_map, List.getElem?_eq_getElem hj]; rfl, ?_⟩
  rw [List.getElem_map]
  exact ⟨(h5 _ (List.getElem_mem hj)).1, fun b e => ((h5 _ (List.getElem_mem hj)).2 b e).2⟩
/-- behind one round: the answer is put behind the others -/
theorem OutW.push {n0 ob bm : Nat} {most : Int} {W w1 : World} {pre : List (Value × List Int)} {M : Nat → Prop} {v : Value} (h : OutW n0 ob bm most W pre M) (hc : W.cell? ⟨ob, 0, none⟩ = some v)
    {x : Value × List Int} {sb len : Nat} (hx : GotI n0 sb len x W) (hown : ∀ b, ownI x b → b < W.heap.size ∧ ¬ M b) {T : TypeId} {g cap : Nat}
    (ho : w1.ownsRow (ob + 1) 26 1 (.slice (some ⟨g, 0, none⟩) (pre.length + 1) cap) (pre.length + 1) (pre.map Prod.fst ++ [x.1])) (hg : (W.alloc (.cells #[x.1] T)).grownBy w1 v.ownBlock)
    (hl : (Value.slice (some ⟨g, 0, none⟩) (pre.length + 1) cap).ownBlock = v.ownBlock ∨ (Value.slice (some ⟨g, 0, none⟩) (pre.length + 1) cap).ownBlock = some (W.alloc (.cells #[x.1] T)).heap.size) :
    ∃ M' : Nat → Prop, (∀ b, M' b → (M b ∨ ownI x b) ∨ W.heap.size ≤ b) ∧ Agr (fun b => M b ∨ ownI x b) W (w1.setCell ⟨ob, 0, none⟩ (.slice (some ⟨g, 0, none⟩) (pre.length + 1) cap)) ∧
      OutW n0 ob bm most (w1.setCell ⟨ob, 0, none⟩ (.slice (some ⟨g, 0, none⟩) (pre.length + 1) cap)) (pre ++ [x]) M' := by
  obtain ⟨v0, h1, h2, h3, h4, h5⟩ := h.row
  rw [hc] at h1
  injection h1 with h1
  subst h1
  have hsz : (W.alloc (.cells #[x.1] T)).heap.size = W.heap.size + 1 := by simp
  have hs1 : W.heap.size + 1 ≤ w1.heap.size := by rw [← hsz]; exact hg.size
  obtain ⟨hsS, hbS⟩ := setCell_blk w1 ⟨ob, 0, none⟩ (.slice (some ⟨g, 0, none⟩) (pre.length + 1) cap)
  have hob := h.lt ob h.mo
  have hbm := h.lt bm h.mb
  have hal : ∀ b, b < W.heap.size → (W.alloc (.cells #[x.1] T)).heap[b]? = W.heap[b]? := fun b hb => Below.heap_alloc W _ b hb
  have hw1 : ∀ b, b < W.heap.size → v.ownBlock ≠ some b → w1.heap[b]? = W.heap[b]? := fun b hb hne => (hg.block b (by omega) (fun e => hne e.symm)).trans (hal b hb)
  have hg' : v.ownBlock = some g ∨ W.heap.size ≤ g := by
    rcases hl with e | e
    · exact .inl e.symm
    · right
      have : some g = some (W.alloc (.cells #[x.1] T)).heap.size := e
      injection this with this
      omega
  have hgob : ob + 1 ≤ g := (own_lt ho (b := g) rfl).2
  have hglt := (own_lt ho (b := g) rfl).1
  have hvob : v.ownBlock ≠ some ob := fun e => by have := (own_lt h3 e).2; omega
  have hvbm : v.ownBlock ≠ some bm := fun e => by have := (own_lt h3 e).2; have := h.lo; omega
  have hxne : ∀ b, ownI x b → b ≠ ob ∧ v.ownBlock ≠ some b := fun b e => ⟨fun e' => (hown b e).2 (e' ▸ h.mo), fun e' => (hown b e).2 (h4 b e')⟩
  have keepX : ∀ y : Value × List Int, IsAt W y.1 y.2 → (∀ b, y.1.ownBlock = some b → v.ownBlock ≠ some b ∧ b ≠ ob) → IsAt (w1.setCell ⟨ob, 0, none⟩ (.slice (some ⟨g, 0, none⟩) (pre.length + 1) cap)) y.1 y.2 := fun y hy hn =>
    SlAt.ownB hy (by omega) (fun b hb e => (hbS b (hn b e).2).trans (hw1 b hb (hn b e).1))
  refine ⟨fun b => M b ∨ ownI x b ∨ b = g, fun b hb => ?_, ⟨?_, fun b hb hn => ?_⟩, ?_⟩
  · rcases hb with e | e | rfl
    · exact .inl (.inl e)
    · exact .inl (.inr e)
    · rcases hg' with e | e
      · exact .inl (.inl (h4 b e))
      · exact .inr e
  · exact (((Below.refl 0 W).alloc (Nat.zero_le _) _).grown hg (Nat.zero_le _) (fun _ _ => Nat.zero_le _)).setCell (p := ⟨ob, 0, none⟩) (Nat.zero_le _) _
  · exact (hbS b (fun e => hn (.inl (by dsimp only at e; rw [e]; exact h.mo)))).trans (hw1 b hb (fun e => hn (.inl (h4 b e))))
  · refine ⟨⟨_, World.cell?_setCell_same _ _ _ (u := v) ((World.cell?_of_block (a := ⟨ob, 0, none⟩) (hw1 ob hob hvob)).trans hc), ?_, ?_, fun b e => ?_, fun y hy => ?_⟩, ?_, .inl h.mo, .inl h.mb, h.lo, h.nb, fun b hb => ?_⟩
    · rw [World.frozen?_setCell]; exact (World.frozen?_of_block (a := ⟨ob, 0, none⟩) (hw1 ob hob hvob)).trans h2
    · rw [List.length_append, List.map_append]
      exact own_block ho (fun b e => hbS b (fun e' => by
        have : some g = some b := e
        injection this with this
        dsimp only at e'; omega))
    · have : some g = some b := e
      injection this with this
      exact .inr (.inr this.symm)
    · have hcase : y ∈ pre ∨ y = x := by simpa using hy
      rcases hcase with hy | rfl
      · refine ⟨keepX y (h5 y hy).1 (fun b e => ((h5 y hy).2 b e).1.2), fun b e => ⟨⟨.inl ((h5 y hy).2 b e).1.1, fun e' => ?_, ((h5 y hy).2 b e).1.2.2⟩, ((h5 y hy).2 b e).2⟩⟩
        have e2 : some g = some b := e'
        injection e2 with e2
        subst e2
        rcases hg' with e3 | e3
        · exact ((h5 y hy).2 _ e).1.2.1 e3
        · have := h.lt _ ((h5 y hy).2 _ e).1.1; omega
      · refine ⟨keepX y hx.1 (fun b e => ⟨(hxne b e).2, (hxne b e).1⟩), fun b e => ⟨⟨.inr (.inl e), fun e' => ?_, (hxne b e).1⟩, (hx.2.1 b e).1⟩⟩
        have e2 : some g = some b := e'
        injection e2 with e2
        subst e2
        rcases hg' with e3 | e3
        · exact (hxne _ e).2 e3
        · have := (hown _ e).1; omega
    · exact (World.cell?_of_block (a := ⟨bm, 0, none⟩) ((hbS bm (fun e => by have := h.lo; dsimp only at e; omega)).trans (hw1 bm hbm hvbm))).trans h.mc
    · rw [hsS]
      rcases hb with e | e | rfl
      · have := h.lt b e; omega
      · have := (hown b e).1; omega
      · exact hglt
end Go.Proofs.YtaekdgikgbdnnaaGreat
namespace Go.Proofs.YtaekdgikgbdnnaaGreat
open Go.RowKit

/-- what Solve hands back -/
def SolveR (r : List (List Int) × Nat × Bool) (w : World) (e : Ending) (w' : World) : Prop :=
  Below w.heap.size w w' ∧ ((r.2.2 = true ∧ e = .returned (.tuple #[.slice none 0 0, .int .i64 34])) ∨ (r.2.2 = false ∧ ∃ ao cap, e = .returned (.tuple #[.slice ao r.1.length cap, .int .i64 0]) ∧ LsFrom w.heap.size w' (.slice ao r.1.length cap) r.1))

theorem labChk_sound {sel ord br : Int} {n : Nat} (h : labChk sel ord br n = 0) : (sel = 0 ∨ sel = 1 ∨ sel = 2 ∨ sel = 3 ∨ sel = 4) ∧ (ord = 0 ∨ ord = 1) ∧ (br = 0 ∨ br = 1) := by
  unfold labChk at h
  split at h
  · cases h
  · omega
attribute [local go_sem] Oper.semAt_some
set_option maxRecDepth 1000000 in
set_option maxHeartbeats 3200000 in
theorem solve_ok (vds vps vv vw : Value) (o : SOpt) (ds : Ds) (ps : List PL) (vars : List Int) (most nodes : Nat) (w : World) (hd : DsAt w vds ds) (hp : PsAt w vps ps) (hv : IsAt w vv vars) (hw : IsAt w vw o.ws)
    (hin : FixIn ds ps) (hlc : labChk o.sel o.ord o.br o.ws.length = 0) (hfc : fixChk ds.length ps = 0) (hvl : vars.length ≤ 64) (hvi : ∀ v ∈ vars, 0 ≤ v ∧ v.toNat < ds.length) (h1 : 1 ≤ most) (h2 : most ≤ 1000) (h3 : 1 ≤ nodes) (h4 : nodes ≤ 10000) :
    Calls Tryz.prog 13 #[vds, vps, vv, .agg #[.int .i64 o.sel, .int .i64 o.ord, .int .i64 o.br, vw], .int .i64 most, .int .i64 nodes] w (SolveR (findR ps vars o most nodes [ds]) w) := by
  obtain ⟨a0, c0, rfl, _⟩ := hd.shape
  obtain ⟨a1, c1, rfl, _⟩ := hp.shape
  obtain ⟨a2, c2, rfl, _⟩ := hv.shape'
  obtain ⟨a3, c3, rfl, _⟩ := hw.shape'
  obtain ⟨W0, hW0⟩ : ∃ W0, W0 = (w.alloc (.cells #[.int .i64 o.sel, .int .i64 o.ord, .int .i64 o.br, .slice a3 o.ws.length c3] 28)).alloc (.cells #[.int .i64 most] 3) := ⟨_, rfl⟩
  have hz0 := boxZ w (.int .i64 o.sel) (.int .i64 o.ord) (.int .i64 o.br) (.slice a3 o.ws.length c3) 28
  have B0 : Hid (Below w.heap.size w W0) := by rw [hW0]; exact hz0.alloc hz0.size _
  have hx0 : BoxL W0 w.heap.size [.int .i64 o.sel, .int .i64 o.ord, .int .i64 o.br, .slice a3 o.ws.length c3] := by
    rw [hW0]
    exact (BoxL.mk' w #[.int .i64 o.sel, .int .i64 o.ord, .int .i64 o.br, .slice a3 o.ws.length c3] 28).below ((Below.refl _ _).alloc (Nat.le_refl _) _) (by simp)
  have hx1 : W0.cell? ⟨w.heap.size + 1, 0, none⟩ = some (.int .i64 most) := by
    have h := ((BoxL.mk' (w.alloc (.cells #[.int .i64 o.sel, .int .i64 o.ord, .int .i64 o.br, .slice a3 o.ws.length c3] 28)) #[.int .i64 most] 3).get 0 rfl).1
    rw [show (w.alloc (.cells #[.int .i64 o.sel, .int .i64 o.ord, .int .i64 o.br, .slice a3 o.ws.length c3] 28)).heap.size = w.heap.size + 1 by simp, ← hW0] at h
    exact h
  have hs0 : W0.heap.size = w.heap.size + 2 := by rw [hW0]; simp
  have CB := Lib.hid (begin_ok (.slice a0 ds.length c0) (.slice a1 ps.length c1) (.slice a2 vars.length c2) (.slice a3 o.ws.length c3) o.sel o.ord o.br ds ps vars o.ws most nodes W0 (hd.below B0.out) (hp.below B0.out) (hv.below B0.out) (hw.below B0.out) hin.ok hlc hfc hvl hvi (by omega) (by omega) (by omega) (by omega))
  obtain ⟨l0, _⟩ := hx0.get 0 rfl
  obtain ⟨l1, _⟩ := hx0.get 1 rfl
  obtain ⟨l2, _⟩ := hx0.get 2 rfl
  obtain ⟨l3, _⟩ := hx0.get 3 rfl
  have HD := Lib.hid hd
  have HP := Lib.hid hp
  have HV := Lib.hid hv
  have HW := Lib.hid hw
  have HIN := Lib.hid hin
  have HVI := Lib.hid hvi
  have HLC := Lib.hid hlc
  have HWE := Lib.hid hW0
  have HS0 := Lib.hid hs0
  have HX1 := Lib.hid hx1
  clear hd hp hv hw hin hlc hfc hvi hW0 hz0 hx0 hs0
  refine (callsIn_wide (n := 3)).1 (callsIn_of_wp_marks Tryz.func13 rfl trivial ?_ rfl)
  refine wpIn_wide.2 ?_
  simp only [Tryz.ntmps13, List.size_toArray, List.length_cons, List.length_nil, Nat.reduceAdd, Nat.reduceSub, Array.replicate_succ, Array.replicate_zero, List.push_toArray, List.append_toArray, List.nil_append, List.cons_append]
  go_upto_region 1 with fail
  rw [← HWE.out]
  go_upto_region 4 with (go_at_call 26; (with_reducible refine CB.out.mono ?_); rintro e W1 ⟨sb, rfl, hsb, hsr, b1⟩; have B1 := Lib.hid b1; have SR := Lib.hid hsr; have HSB := Lib.hid hsb; clear b1 hsr hsb)
  have hsl := SR.out.lt
  obtain ⟨W2, hW2⟩ : ∃ W2, W2 = W1.alloc (.cells #[.slice none 0 0] 32) := ⟨_, rfl⟩
  have BW2 : Hid (Below W1.heap.size W1 W2) := by rw [hW2]; exact (Below.refl _ _).alloc (Nat.le_refl _) _
  have hb2 := BoxL.mk' W1 #[.slice none 0 0] 32
  rw [← hW2] at hb2
  have HB2 := Lib.hid hb2
  have hs2 : Hid (W2.heap.size = W1.heap.size + 1) := by show _ = _; rw [hW2]; simp
  have HW2 := Lib.hid hW2
  have CA : Hid (Calls Tryz.prog 27 #[.pointer (some ⟨sb, 0, none⟩), .slice a0 ds.length c0] W2 fun e w' => e = .returned (.func (.func 42) #[] #[.pointer (some ⟨W2.heap.size + 1, 0, none⟩), .pointer (some ⟨W2.heap.size, 0, none⟩)]) ∧
      w'.cell? ⟨W2.heap.size, 0, none⟩ = some (.pointer (some ⟨sb, 0, none⟩)) ∧ w'.cell? ⟨W2.heap.size + 1, 0, none⟩ = some (.slice a0 ds.length c0) ∧ Below W2.heap.size W2 w' ∧ w'.heap.size = W2.heap.size + 2) := answers_c sb _ W2 a0 ds.length c0 rfl
  obtain ⟨HS, hHS⟩ : ∃ HS, HS = W2.heap.size := ⟨_, rfl⟩
  rw [← hHS] at CA
  have HHS := Lib.hid hHS
  clear hb2 hW2 hHS
  go_upto_region 5 with fail
  rw [← HW2.out]
  go_wp2_with (go_at_call 27; (with_reducible refine CA.out.mono ?_); rintro e W3 ⟨rfl, x0, x1, b3, s3⟩; have X0 := Lib.hid x0; have X1 := Lib.hid x1; have B3 := Lib.hid b3; have S3 := Lib.hid s3; clear x0 x1 b3 s3)
  have HOB : Hid (W1.heap.size + 1 = HS) := by show _ = _; rw [HHS.out, hs2.out]
  have hsb := HSB.out
  have hs0 := HS0.out
  have B1s := B1.out.size
  have S3' := S3.out
  have B3' : Below W2.heap.size W2 W3 := by rw [← HHS.out]; exact B3.out
  have BW3 : Hid (Below W1.heap.size W1 W3) := BW2.out.trans (B3'.mono BW2.out.size)
  have BIN : Hid (Below w.heap.size w W3) := (B0.out.trans (B1.out.mono B0.out.size)).trans (BW3.out.mono (Nat.le_trans B0.out.size B1s))
  have SR3 := Lib.hid (SR.out.on (BW3.out.block _ hsl))
  have hob3 : W3.cell? ⟨W1.heap.size, 0, none⟩ = some (.slice none 0 0) := (B3'.cell (p := ⟨W1.heap.size, 0, none⟩) (by have := hs2.out; dsimp only; omega)).trans (HB2.out.get 0 rfl).1
  have hof3 : W3.frozen? ⟨W1.heap.size, 0, none⟩ = false := (B3'.frozen (p := ⟨W1.heap.size, 0, none⟩) (by have := hs2.out; dsimp only; omega)).trans (HB2.out.get 0 rfl).2
  have hbm3 : W3.cell? ⟨w.heap.size + 1, 0, none⟩ = some (.int .i64 most) := (BW3.out.cell (p := ⟨w.heap.size + 1, 0, none⟩) (by dsimp only; omega)).trans ((B1.out.cell (p := ⟨w.heap.size + 1, 0, none⟩) (by dsimp only; omega)).trans HX1.out)
  have hob1 := HOB.out
  have I0 : Hid (OutW w.heap.size W1.heap.size (w.heap.size + 1) most W3 [] (fun b => b = W1.heap.size ∨ b = w.heap.size + 1)) :=
    ⟨⟨_, hob3, hof3, World.ownsRow_nil _ _ _ _, fun b e => (by cases e), fun x hx => (by cases hx)⟩, hbm3, .inl rfl, .inr rfl, by omega, by omega, fun b hb => by rcases hb with rfl | rfl <;> omega⟩
  obtain ⟨hse, hor, hbr⟩ := labChk_sound HLC.out
  have HSEQ : Hid (∀ W', Below W3.heap.size W3 W' → W'.heap.size = W3.heap.size + 2 → SeqM Fence.wide 2 Tryz.prog 42 #[.pointer (some ⟨HS + 1, 0, none⟩), .pointer (some ⟨HS, 0, none⟩)] (fun x => #[x.1]) (GotI w.heap.size sb vars.length) ownI w.heap.size (AnsDone ps vars o nodes ds sb (.slice a1 ps.length c1) (.slice a2 vars.length c2) (.slice a3 o.ws.length c3)) (AnsStop ps vars o nodes ds sb (.slice a1 ps.length c1) (.slice a2 vars.length c2) (.slice a3 o.ws.length c3)) (fun b => (b = W1.heap.size ∨ b = w.heap.size + 1) ∨ b = W3.heap.size ∨ b = W3.heap.size + 1) W') := fun W' hb _ => by
    have hbi := BIN.out.trans (hb.mono BIN.out.size)
    have hx0 := X0.out
    have hx1 := X1.out
    refine answers_seq w W' (HS + 1) HS sb (.slice a0 ds.length c0) (.slice a1 ps.length c1) (.slice a2 vars.length c2) (.slice a3 o.ws.length c3) ds ps vars o nodes _ ⟨HP.out, HV.out, HW.out, hbi, SR3.out.on (hb.block _ (by omega)), (hb.cell (p := ⟨HS, 0, none⟩) (by dsimp only; omega)).trans hx0, (hb.cell (p := ⟨HS + 1, 0, none⟩) (by dsimp only; omega)).trans hx1,
      DsQ.of_input HD.out hbi (fun b hb' => ⟨fun e => by omega, by omega⟩), by omega, by omega, fun e => by omega, fun e => by omega, fun b e => by omega, HIN.out, HVI.out, hvl, h4, hse, hor, hbr⟩ 2
  clear hob3 hof3 hbm3 SR3 hse hor hbr
  refine (wpIn_wide (n := 3)).1 ?_
  refine wpIn_rangeFunc_M rfl (by decide) (gf := 42) (lb := #[.pointer (some ⟨HS + 1, 0, none⟩), .pointer (some ⟨HS, 0, none⟩)]) rfl trivial (enters_of Tryz.func42 (by kernel_rfl) rfl)
    (encs := fun x : Value × List Int => #[x.1]) (Got := GotI w.heap.size sb vars.length) (own := ownI) (n0 := w.heap.size) (M0 := fun b => b = W1.heap.size ∨ b = w.heap.size + 1) HSEQ.out BIN.out.size (fun _ => rfl)
    (fun x W W' h hs hb => ⟨SlAt.ownB h.1 hs (fun b _ e => hb b e), h.2⟩)
    (fun xs W o' ⟨k, n, ov, h, h'⟩ => ⟨k, n, ov, h.on (World.putObj_heap_other (by omega)), h'⟩) (fun xs W o' ⟨n, h, h'⟩ => ⟨n, h.on (World.putObj_heap_other (by omega)), h'⟩)
    (fun pre M W => OutW w.heap.size W1.heap.size (w.heap.size + 1) most W pre M ∧ pre.length < most) (fun c pre M W => c = .exit 0 ∧ OutW w.heap.size W1.heap.size (w.heap.size + 1) most W pre M ∧ pre.length = most)
    (fun pre M W W' h hs hb => ⟨h.1.rest hs hb, h.2⟩) (fun c pre M W W' h hs hb => ⟨h.1, h.2.1.rest hs hb, h.2.2⟩) (fun pre M W h => h.1.lt) (fun c pre M W h => h.2.1.lt) ⟨I0.out, by simp; omega⟩
    (fun x => { tmps := #[.slice a0 ds.length c0, .slice a1 ps.length c1, .slice a2 vars.length c2, .agg #[.int .i64 o.sel, .int .i64 o.ord, .int .i64 o.br, .slice a3 o.ws.length c3], .int .i64 most, .int .i64 nodes, undef, undef, undef, .pointer (some ⟨w.heap.size, 0, none⟩), .pointer (some ⟨w.heap.size + 1, 0, none⟩), undef, .slice none 0 0, .int .i64 0, .pointer (some ⟨sb, 0, none⟩), .int .i64 0, .pointer (some ⟨W1.heap.size, 0, none⟩), x.1, .tuple #[.pointer (some ⟨sb, 0, none⟩), .int .i64 0], .slice a0 ds.length c0, .slice a1 ps.length c1, .slice a2 vars.length c2, .agg #[.int .i64 o.sel, .int .i64 o.ord, .int .i64 o.br, .slice a3 o.ws.length c3], .int .i64 most, .int .i64 nodes, .tuple #[.pointer (some ⟨sb, 0, none⟩), .int .i64 0], .pointer (some ⟨sb, 0, none⟩), .int .i64 0, .int .i64 0, .bool false, undef, .pointer (some ⟨sb, 0, none⟩), .slice a0 ds.length c0, .func (.func 42) #[] #[.pointer (some ⟨HS + 1, 0, none⟩), .pointer (some ⟨HS, 0, none⟩)], x.1, undef, undef, undef, undef, undef, undef, undef, undef, undef, undef, undef, undef, undef], defers := [] }) ?assign ?body ?done ?stop
  case assign =>
    intro l x W K hK
    gi_wp2
    exact hK
  case body =>
    rintro l pre M ⟨vx, xs⟩ W ⟨hO, hlen⟩ hx hown hsz _
    obtain ⟨v, hc, hf, hrow, hvm, hel⟩ := hO.row
    have hx' : IsAt W vx xs := hx.1
    obtain ⟨ax, cx, rfl, _⟩ := SlAt.shape hx'
    obtain ⟨av, cv, rfl, _⟩ := (SlAt.of_own hrow).shape
    dsimp only
    have hmc := hO.mc
    have hob := hO.lt _ hO.mo
    have hbm := hO.lt _ hO.mb
    have hlo := hO.lo
    obtain ⟨t0, ht, hz0', hz1', hz2'⟩ := info_parts Tryz.infoInts
    have hxo : (Value.slice ax xs.length cx).oneCell' = true := rfl
    have hvob : (Value.slice av pre.length cv).ownBlock ≠ some W1.heap.size := fun e => by have := (own_lt hrow e).2; omega
    have hvbm : (Value.slice av pre.length cv).ownBlock ≠ some (w.heap.size + 1) := fun e => by have := (own_lt hrow e).2; omega
    have HO := Lib.hid hO
    have HX := Lib.hid hx
    have HOW := Lib.hid hown
    have HC := Lib.hid hc
    clear hel hvm hO hx hown hx'
    have hx1' : ∀ o', (W.alloc o').cell? ⟨w.heap.size + 1, 0, none⟩ = some (.int .i64 most) := fun o' => Lib.cell?_alloc_some o' hmc
    by_cases hm : pre.length + 1 = most
    · have hq : (((pre.length : Int) + 1) == (most : Int)) = true := by rw [← hm]; simp
      have HM := Lib.hid hm
      clear hm
      gi_wp2_with (gi_at_builtin; refine wpListIn_append_own_at _ rfl (.tmp 35) (.tmp 37) 32 rfl (W1.heap.size + 1) 26 t0 (.slice none 0 0) 1 24 Tryz.underlying32 ht hz0' hz1' hz2' rfl (by decide) (.slice av pre.length cv) pre.length (pre.map Prod.fst) rfl (hrow.alloc _) ⟨W.heap.size, 0, none⟩ 1 1 [.slice ax xs.length cx] rfl rfl (cell_one_new _ _ _) (one1 hxo) (by unfold maxLen; omega) (by omega) (by simp; omega) ?_; intro v' w1 r1 r2 r3 r4; obtain ⟨g, cap, rfl, _, _⟩ := r1.form (Nat.succ_pos _); have hw1 : (∀ b, b < W.heap.size → (Value.slice av pre.length cv).ownBlock ≠ some b → w1.heap[b]? = W.heap[b]?) := (fun b hb hne => (r2.block b (by simp; omega) (fun e => hne e.symm)).trans (Below.heap_alloc W _ b hb)); have k1 := (World.cell?_of_block (a := ⟨W1.heap.size, 0, none⟩) (hw1 _ hob hvob)).trans hc; have k1f := (World.frozen?_of_block (a := ⟨W1.heap.size, 0, none⟩) (hw1 _ hob hvob)).trans hf; have k2 : (∀ u, (w1.setCell ⟨W1.heap.size, 0, none⟩ u).cell? ⟨W1.heap.size, 0, none⟩ = some u) := (fun u => World.cell?_setCell_same _ _ _ k1); have k3 : (∀ u, (w1.setCell ⟨W1.heap.size, 0, none⟩ u).cell? ⟨w.heap.size + 1, 0, none⟩ = some (.int .i64 most)) := (fun u => (World.cell?_of_block (a := ⟨w.heap.size + 1, 0, none⟩) (((setCell_blk w1 ⟨W1.heap.size, 0, none⟩ u).2 _ (by dsimp only; omega)).trans (hw1 _ hbm hvbm))).trans hmc))
      obtain ⟨M', p1, p2, p3⟩ := OutW.push HO.out HC.out HX.out HOW.out r1 r2 r4
      exact ⟨M', p1, p2, rfl, p3, by rw [List.length_append]; exact HM.out⟩
    · have hq : (((pre.length : Int) + 1) == (most : Int)) = false := by simp; omega
      have HM := Lib.hid hm
      clear hm
      gi_wp2_with (gi_at_builtin; refine wpListIn_append_own_at _ rfl (.tmp 35) (.tmp 37) 32 rfl (W1.heap.size + 1) 26 t0 (.slice none 0 0) 1 24 Tryz.underlying32 ht hz0' hz1' hz2' rfl (by decide) (.slice av pre.length cv) pre.length (pre.map Prod.fst) rfl (hrow.alloc _) ⟨W.heap.size, 0, none⟩ 1 1 [.slice ax xs.length cx] rfl rfl (cell_one_new _ _ _) (one1 hxo) (by unfold maxLen; omega) (by omega) (by simp; omega) ?_; intro v' w1 r1 r2 r3 r4; obtain ⟨g, cap, rfl, _, _⟩ := r1.form (Nat.succ_pos _); have hw1 : (∀ b, b < W.heap.size → (Value.slice av pre.length cv).ownBlock ≠ some b → w1.heap[b]? = W.heap[b]?) := (fun b hb hne => (r2.block b (by simp; omega) (fun e => hne e.symm)).trans (Below.heap_alloc W _ b hb)); have k1 := (World.cell?_of_block (a := ⟨W1.heap.size, 0, none⟩) (hw1 _ hob hvob)).trans hc; have k1f := (World.frozen?_of_block (a := ⟨W1.heap.size, 0, none⟩) (hw1 _ hob hvob)).trans hf; have k2 : (∀ u, (w1.setCell ⟨W1.heap.size, 0, none⟩ u).cell? ⟨W1.heap.size, 0, none⟩ = some u) := (fun u => World.cell?_setCell_same _ _ _ k1); have k3 : (∀ u, (w1.setCell ⟨W1.heap.size, 0, none⟩ u).cell? ⟨w.heap.size + 1, 0, none⟩ = some (.int .i64 most)) := (fun u => (World.cell?_of_block (a := ⟨w.heap.size + 1, 0, none⟩) (((setCell_blk w1 ⟨W1.heap.size, 0, none⟩ u).2 _ (by dsimp only; omega)).trans (hw1 _ hbm hvbm))).trans hmc))
      obtain ⟨M', p1, p2, p3⟩ := OutW.push HO.out HC.out HX.out HOW.out r1 r2 r4
      exact ⟨M', p1, p2, p3, by rw [List.length_append]; have := HM.out; show pre.length + 1 < most; omega⟩
  case done =>
    rintro D xs M W ⟨k, n, ov, hs, _, hr⟩ ⟨hO, hlen⟩ hK hDl hDm hB
    have c7 := hs.c7
    have hr2 := hr (most - xs.length - 1)
    rw [show xs.length + (most - xs.length - 1 + 1) = most by omega] at hr2
    have hbo : Below w.heap.size w (W.putObj D (.deferred none)) := (BIN.out.trans hB).grown (grownBy_putObj' _ _ _) (by have := (BIN.out.trans hB).size; omega) (fun k e => by cases e; have := BIN.out.size; omega)
    have hO2 : OutW w.heap.size W1.heap.size (w.heap.size + 1) most (W.putObj D (.deferred none)) xs M := hO.rest (by simp) (fun b hm => World.putObj_heap_other (fun e => hDm (by rw [← e]; exact hm)))
    obtain ⟨ao, cap, hco, hls⟩ := hO2.ls
    have hx : W.cell? ⟨W1.heap.size, 0, none⟩ = some (.slice ao xs.length cap) := (World.cell?_of_block (a := ⟨W1.heap.size, 0, none⟩) (World.putObj_heap_other (w := W) (o := .deferred none) (fun e => hDm (by rw [← e]; exact hO.mo)))).symm.trans hco
    have HR2 := Lib.hid hr2
    have HBO := Lib.hid hbo
    have HLS := Lib.hid hls
    clear hr hr2 hbo hO hO2 hs hls hB
    cases ov with
    | true =>
      go_wp2
      refine ⟨by simp, .inl ⟨_, _, rfl, run_takeDeferred hK, ?_⟩⟩
      refine ⟨_, by simp [results, Tryz.results13, go_sem]; rfl, ?_⟩
      rw [HR2.out]
      exact ⟨HBO.out, .inl ⟨rfl, rfl⟩⟩
    | false =>
      go_wp2
      refine ⟨by simp, .inl ⟨_, _, rfl, run_takeDeferred hK, ?_⟩⟩
      refine ⟨_, by simp [results, Tryz.results13, go_sem]; rfl, ?_⟩
      rw [HR2.out]
      exact ⟨HBO.out, .inr ⟨rfl, ao, cap, by rw [List.length_map], by rw [List.length_map]; exact HLS.out⟩⟩
  case stop =>
    rintro D c pre M W ⟨n, hs, hr⟩ ⟨rfl, hO, hlen⟩ hK hDl hDm hB
    have c7 := hs.c7
    rw [hlen] at hr
    have hbo : Below w.heap.size w (W.putObj D (.deferred none)) := (BIN.out.trans hB).grown (grownBy_putObj' _ _ _) (by have := (BIN.out.trans hB).size; omega) (fun k e => by cases e; have := BIN.out.size; omega)
    have hO2 : OutW w.heap.size W1.heap.size (w.heap.size + 1) most (W.putObj D (.deferred none)) pre M := hO.rest (by simp) (fun b hm => World.putObj_heap_other (fun e => hDm (by rw [← e]; exact hm)))
    obtain ⟨ao, cap, hco, hls⟩ := hO2.ls
    have hx : W.cell? ⟨W1.heap.size, 0, none⟩ = some (.slice ao pre.length cap) := (World.cell?_of_block (a := ⟨W1.heap.size, 0, none⟩) (World.putObj_heap_other (w := W) (o := .deferred none) (fun e => hDm (by rw [← e]; exact hO.mo)))).symm.trans hco
    have HR2 := Lib.hid hr
    have HBO := Lib.hid hbo
    have HLS := Lib.hid hls
    clear hr hbo hO hO2 hs hls hB hlen
    refine wpIn_exit ?_
    go_wp2
    refine ⟨by simp, .inl ⟨_, _, rfl, run_takeDeferred hK, ?_⟩⟩
    refine ⟨_, by simp [results, Tryz.results13, go_sem]; rfl, ?_⟩
    rw [HR2.out]
    exact ⟨HBO.out, .inr ⟨rfl, ao, cap, by rw [List.length_map], by rw [List.length_map]; exact HLS.out⟩⟩
end Go.Proofs.YtaekdgikgbdnnaaGreat
namespace Go.Proofs.YtaekdgikgbdnnaaGreat

/-- x comes ahead of y, place by place -/
def lexLt (x y : List Int) : Prop := ∃ k, (∀ j, j < k → x.getD j 0 = y.getD j 0) ∧ x.getD k 0 < y.getD k 0
def inOrder (ord : Int) (x y : List Int) : Prop := if ord = 1 then lexLt y x else lexLt x y
theorem choose_left {ds : Ds} {vars ws : List Int} : ∀ {k b : Nat}, chooseL ds vars 0 ws k = some b → ∀ i, i < b → sizeL (norm (domAt ds (vars.getD i 0))) < 2
  | 0, b, h => by simp [chooseL] at h
  | k + 1, b, h => by
    unfold chooseL at h
    split at h
    · exact choose_left h
    · split at h
      · rename_i hb
        cases h
        exact choose_none hb
      · rename_i b' hb
        have hr : ¬ rankL 0 ws (domAt ds (vars.getD k 0)) k < rankL 0 ws (domAt ds (vars.getD b' 0)) b' := by simp [rankL]
        rw [if_neg hr] at h
        cases h
        exact choose_left hb
theorem split_order {d : List Rg} {ord br : Int} (hn : Normal d) (h : ¬ sizeL (norm d) < 2) {x y : Int} (hx : memL (splitL d ord br).1 x = true) (hy : memL (splitL d ord br).2 y = true) : if ord = 1 then y < x else x < y := by
  have hA : ∀ z c, memL (meetL d [((endsL (norm d)).1, c)]) z = true → z ≤ c := fun z c hz => by
    have h1 : memL (meetL d [((endsL (norm d)).1, c)]) z = (inD z && (memL d z && memL [((endsL (norm d)).1, c)] z)) := canon_mem _ _
    rw [h1, mem1] at hz
    simp at hz; omega
  have hB : ∀ z c, memL (minusL d [((endsL (norm d)).1, c)]) z = true → c < z := fun z c hz => by
    have h1 : memL (minusL d [((endsL (norm d)).1, c)]) z = (inD z && (memL d z && !memL [((endsL (norm d)).1, c)] z)) := canon_mem _ _
    rw [h1, Bool.and_eq_true, Bool.and_eq_true] at hz
    obtain ⟨_, hd, hm⟩ := hz
    have hle := (ends_mem d z (by rw [norm_of_normal hn]; exact hd)).1
    rw [mem1] at hm
    simp at hm
    omega
  unfold splitL at hx hy
  rw [if_neg h] at hx hy
  dsimp only at hx hy
  by_cases o1 : ord = 1
  · rw [if_pos o1] at hx hy ⊢
    have := hB _ _ hx
    have := hA _ _ hy
    omega
  · rw [if_neg o1] at hx hy ⊢
    have := hA _ _ hx
    have := hB _ _ hy
    omega
/-- of two parts of the leftmost variable all of the one's solutions stand ahead of the other's -/
theorem part_order {ps : List PL} {now : Ds} {k : Nat} {o : SOpt} (hn : AllN now) (hk : k < now.length) (h : ¬ sizeL (norm (now.getD k [])) < 2) (hleft : ∀ i, i < k → sizeL (norm (now.getD i [])) < 2) {x y : List Int} (hx : Sol ps (partAt now k o).1 x) (hy : Sol ps (partAt now k o).2 y) : inOrder o.ord x y := by
  obtain ⟨n1, n2⟩ := split_normal (now.getD k []) o.ord o.br
  have h1 := (has_set hk).1 hx.1
  have h2 := (has_set hk).1 hy.1
  have e1 : norm (splitL (now.getD k []) o.ord o.br).1 = (splitL (now.getD k []) o.ord o.br).1 := norm_of_normal n1
  have e2 : norm (splitL (now.getD k []) o.ord o.br).2 = (splitL (now.getD k []) o.ord o.br).2 := norm_of_normal n2
  have a1 := h1.2.2
  have a2 := h2.2.2
  rw [e1] at a1
  rw [e2] at a2
  have hlt := split_order (hn k) h a1 a2
  have hsame : ∀ j, j < k → x.getD j 0 = y.getD j 0 := fun j hj => by
    have b1 := h1.2.1 j (by omega) (by omega)
    have b2 := h2.2.1 j (by omega) (by omega)
    have e : norm (now.getD j []) = now.getD j [] := norm_of_normal (hn j)
    rw [e] at b1 b2
    have hs := single_set (hn j) (mem_ne_nil b1) (hleft j hj)
    rw [hs, one_mem, decide_eq_true_eq] at b1 b2
    rw [b1, b2]
  unfold inOrder
  by_cases o1 : o.ord = 1
  · rw [if_pos o1] at hlt ⊢
    exact ⟨k, fun j hj => (hsame j hj).symm, hlt⟩
  · rw [if_neg o1] at hlt ⊢
    exact ⟨k, hsame, hlt⟩
/-- from the leftmost variable on the answers stand in order -/
theorem find_order {ps : List PL} {n : Nat} {o : SOpt} (hg : ∀ p ∈ ps, p.Lin n) (ho : o.ord = 0 ∨ o.ord = 1) (hb : o.br = 0 ∨ o.br = 1) (hsel : o.sel = 0) : ∀ (fuel : Nat) (st : List Ds), (∀ D ∈ st, D.length = n) → (st.map nodesN).sum ≤ fuel →
    (st.Pairwise fun A B => ∀ x y, Sol ps A x → Sol ps B y → inOrder o.ord x y) → (find ps (allV n) o fuel st).1.Pairwise (inOrder o.ord)
  | 0, [], _, _, _ => List.Pairwise.nil
  | fuel + 1, [], _, _, _ => List.Pairwise.nil
  | 0, D :: st, _, hs, _ => by
    have := nodesN_pos D
    rw [List.map_cons, List.sum_cons] at hs
    omega
  | fuel + 1, D :: st, hl, hs, hp => by
    have hD : D.length = n := hl D List.mem_cons_self
    have hgD : ∀ p ∈ ps, p.Lin D.length := by rw [hD]; exact hg
    rw [List.map_cons, List.sum_cons] at hs
    have hpos := nodesN_pos D
    obtain ⟨R, hR⟩ := fixOf_exists (ps := ps) (D := D) (fun p hp => (hgD p hp).good)
    have hsol := fun x => sol_iff hgD hR x
    have hl' : ∀ E ∈ st, E.length = n := fun E hE => hl E (List.mem_cons_of_mem _ hE)
    obtain ⟨p1, p2⟩ := List.pairwise_cons.1 hp
    rw [find, theFix_eq hR]
    cases R with
    | none => exact find_order hg ho hb hsel fuel st hl' (by omega) p2
    | some now =>
      have hnl : now.length = n := hR.1.len.trans hD
      have hs2 : ∀ x, Sol ps D x ↔ Sol ps now x := fun x => by
        rw [hsol x]
        exact ⟨fun ⟨r, e, h⟩ => by cases e; exact h, fun h => ⟨now, rfl, h⟩⟩
      dsimp only
      cases hc : chooseL now (allV n) o.sel o.ws (allV n).length with
      | none =>
        have i3 := find_order hg ho hb hsel fuel st hl' (by omega) p2
        obtain ⟨_, i2, _⟩ := find_all hg ho hb fuel st hl' (by omega)
        have hleaf := leaf_sol (o := o) hg hD hR hc
        dsimp only
        refine List.pairwise_cons.2 ⟨fun y hy => ?_, i3⟩
        obtain ⟨E, hE, h⟩ := (i2 y).1 hy
        exact p1 E hE _ y ((hs2 _).2 ((hleaf _).2 rfl)) h
      | some k =>
        have hk : k < n := by have := chooseL_lt _ _ _ _ _ _ hc; rwa [allV_len] at this
        have hsz := choose_some hc
        rw [allV_at hk, domAt_nat] at hsz
        have hkv : ((allV n).getD k 0).toNat = k := by rw [allV_at hk, Int.toNat_natCast]
        have hleft : ∀ i, i < k → sizeL (norm (now.getD i [])) < 2 := fun i hi => by
          rw [hsel] at hc
          have := choose_left hc i hi
          rwa [allV_at (by omega), domAt_nat] at this
        dsimp only
        rw [hkv]
        have hparts := fun x => part_sol (ps := ps) (o := o) (by omega : k < now.length) hsz ho hb x
        have hnp := nodes_parts hR.1.nor hR.1.non (by omega : k < now.length) hsz ho hb (o := o)
        have hle : nodesN now ≤ nodesN D := nodesN_le (prodN_le hR.1.len (fun j x hx => by
          have := hR.1.sub j x hx
          rw [getD_map_norm, memL_norm, Bool.and_eq_true] at this
          exact this.2))
        have hin : ∀ x, (Sol ps (partAt now k o).1 x → Sol ps D x) ∧ (Sol ps (partAt now k o).2 x → Sol ps D x) := fun x => ⟨fun h => (hs2 x).2 ((hparts x).1.2 (.inl h)), fun h => (hs2 x).2 ((hparts x).1.2 (.inr h))⟩
        refine find_order hg ho hb hsel fuel ((partAt now k o).1 :: (partAt now k o).2 :: st) (fun E hE => by
          rcases List.mem_cons.1 hE with rfl | hE
          · show (now.set _ _).length = n; rw [List.length_set]; exact hnl
          · rcases List.mem_cons.1 hE with rfl | hE
            · show (now.set _ _).length = n; rw [List.length_set]; exact hnl
            · exact hl' E hE) (by rw [List.map_cons, List.map_cons, List.sum_cons, List.sum_cons]; omega) ?_
        refine List.pairwise_cons.2 ⟨fun E hE x y hx hy => ?_, List.pairwise_cons.2 ⟨fun E hE x y hx hy => ?_, p2⟩⟩
        · rcases List.mem_cons.1 hE with rfl | hE
          · exact part_order hR.1.nor (by omega) hsz hleft hx hy
          · exact p1 E hE x y ((hin x).1 hx) hy
        · exact p1 E hE x y ((hin x).2 hx) hy
end Go.Proofs.YtaekdgikgbdnnaaGreat
