/-
  slices.CompactFunc at a sorted list of terms: each once.
  slices.CompactFunc by 'Compare == 0' at a sorted list of terms of the call's own, walked.
  term.mapped, walked with the function value of Copy.
  term.copied: a term made anew.
-/
import Derived.Test.YtmffobadnmkpbaaKtmr2
import Derived.Test.YtmffobadnmkpbaaKtmr4
import Derived.Test.YtmffobadnmkpbaaKtmr1
import Derived.Deep.RegionHeld3
import Derived.Lib.SliceRun
import Derived.BigFrame
import Derived.Laws.OwnMore
import Derived.Deep.RegionLaw
namespace Go.Proofs.Ytmffobadnmkpbaa
open Go.RowKit

def RetSrt (l : List Tm) (w : World) (e : Ending) (w' : World) : Prop := ∃ ao cap R, e = .returned (.slice ao R.length cap) ∧ TsAt (fun _ => True) w' (.slice ao R.length cap) R ∧ Dd l l.length R ∧ Below w.heap.size w w'

set_option maxRecDepth 100000 in
theorem sortEq_c (a b : Tm) (va vb : Value) (w : World) (ha : TmAt (fun _ => True) w a va) (hb : TmAt (fun _ => True) w b vb) :
    Calls Try.prog 79 #[tmV a va, tmV b vb] w fun e w' => e = .returned (.bool (cmpT a b == 0)) ∧ Below w.heap.size w w' := by
  obtain ⟨ao1, cc1, rfl, _⟩ := ha.shape
  obtain ⟨ao2, cc2, rfl, _⟩ := hb.shape
  have CC : Hid (∀ W, Below w.heap.size w W → Calls Try.prog 23 #[.agg #[.int .i64 a.kind, .int .i64 a.num, .string a.name, .slice ao1 a.args.length cc1], .agg #[.int .i64 b.kind, .int .i64 b.num, .string b.name, .slice ao2 b.args.length cc2]] W fun e w' => e = .returned (.int .i64 (cmpT a b)) ∧ Below w.heap.size w w') := fun W h =>
    (compareT_c a b _ _ W (ha.later h) (hb.later h)).mono fun e w' ⟨h1, h2⟩ => ⟨h1, h.trans (h2.mono h.size)⟩
  unfold tmV
  generalize cmpT a b = z at *
  clear ha hb
  go_enter Try.func79, Try.ntmps79
  go_wp2_with (first | (go_at_call 23; ((with_reducible refine (CC.out _ (below_two _ _ _)).mono ?_); rintro e W2 ⟨rfl, bb⟩; have BB := Lib.hid bb; clear bb)))
  go_ret
  exact ⟨ret_bool rfl, BB.out⟩

theorem Dd.short {l : List Tm} (h : l.length < 2) : Dd l l.length l := by
  refine ⟨?_, fun t => by rw [List.take_length]⟩
  match l, h with
  | [], _ => exact List.Pairwise.nil
  | [x], _ => simp [Rise]
theorem run_clear_cells {P : Program} (w : World) (t e ty : TypeId) (z : Value) (ht : P.underlying t = some (.slice e)) (hv : ∀ w, (zeroValue e).run P w = .ok z w) (b o n c : Nat) (hn : 0 < n) (h1 : ∀ v ∈ (Builtin.zeroCells z.cells n).toList, v.oneCell' = true)
    (hc : ∀ j, j < (Builtin.zeroCells z.cells n).toList.length → (w.cell? ⟨b, o + j, none⟩).isSome = true) (hf : ∀ j, w.frozen? ⟨b, j, none⟩ = false) :
    (Builtin.clear_ #[t] ty #[.slice (some ⟨b, o, none⟩) n c]).run P w = .ok (.tuple #[]) (w.setCells b o (Builtin.zeroCells z.cells n).toList) := by
  have hst := run_storeCells_cells (P := P) b o (Builtin.zeroCells z.cells n).toList 0 w (by simpa using hc) (fun j _ => hf _) h1
  simp only [Nat.add_zero] at hst
  obtain ⟨m, rfl⟩ : ∃ m, n = m + 1 := ⟨n - 1, by omega⟩
  simp [Builtin.clear_, run_underlying ht, hv, hst]
theorem below_setCells (B b : Nat) (hb : B ≤ b) : ∀ (vs : List Value) (o : Nat) (w : World), Below B w (w.setCells b o vs)
  | [], _, _ => Below.refl _ _
  | v :: r, o, w => ((Below.refl B w).setCell (p := ⟨b, o, none⟩) hb v).trans (below_setCells B b hb r (o + 1) _)
theorem heap_setCells (b k : Nat) (hk : k ≠ b) : ∀ (vs : List Value) (o : Nat) (w : World), (w.setCells b o vs).heap[k]? = w.heap[k]?
  | [], _, _ => rfl
  | v :: r, o, w => (heap_setCells b k hk r (o + 1) _).trans (Below.heap_setCell w ⟨b, o, none⟩ v k hk)
theorem ownTs_len {p : Nat → Prop} {h g n cap : Nat} {w : World} {L : List (Tm × Value)} (H : OwnTs p h w (.slice (some ⟨g, 0, none⟩) n cap) L) : L.length = n := by
  rcases H.own.2 with ⟨he, _⟩ | ⟨g', cap', cur, he, _⟩
  · cases he
  · simp only [Value.slice.injEq] at he
    exact he.2.1.symm
theorem ownTs_cell {p : Nat → Prop} {h g n cap : Nat} {w : World} {L : List (Tm × Value)} (H : OwnTs p h w (.slice (some ⟨g, 0, none⟩) n cap) L) (j : Nat) (hj : j < L.length * 4) : w.cell? ⟨g, j, none⟩ = (tmCs L)[j]? := by
  obtain rfl := ownTs_len H
  exact H.own.cellAt j hj
/-- the four cells of a term of an own row -/
theorem ownTs_cells {p : Nat → Prop} {h g n cap : Nat} {w : World} {L : List (Tm × Value)} (H : OwnTs p h w (.slice (some ⟨g, 0, none⟩) n cap) L) (k : Nat) (hk : k < L.length) :
    CellsT w g (k * 4) L[k].1 L[k].2 := by
  have hc := ownTs_cell H
  have hq := tmCs_at L k hk
  have q := fun j (hj : j < 4) => (hc (k * 4 + j) (by omega)).trans (hq j hj)
  have q0 := q 0 (by omega); rw [Nat.add_zero] at q0
  exact ⟨q0, q 1 (by omega), q 2 (by omega), q 3 (by omega)⟩
theorem ownTs_loose {p : Nat → Prop} {h g n cap : Nat} {w : World} {L : List (Tm × Value)} (H : OwnTs p h w (.slice (some ⟨g, 0, none⟩) n cap) L) (j : Nat) : w.frozen? ⟨g, j, none⟩ = false := by
  rcases H.own.2 with ⟨he, _⟩ | ⟨g', cap', cur, he, hg, hgg, _⟩
  · cases he
  · simp only [Value.slice.injEq, Option.some.injEq, Addr.mk.injEq, and_true] at he
    obtain ⟨rfl, _, rfl⟩ := he
    simp [World.frozen?, hgg]
theorem ownTs_isSome {p : Nat → Prop} {h g n cap : Nat} {w : World} {L : List (Tm × Value)} (H : OwnTs p h w (.slice (some ⟨g, 0, none⟩) n cap) L) (j : Nat) (hj : j < L.length * 4) : (w.cell? ⟨g, j, none⟩).isSome = true := by
  rw [ownTs_cell H j hj, List.getElem?_eq_getElem (by rw [tmCs_len]; exact hj)]; rfl
/-- one of its terms stored at another place -/
theorem ownTs_move {p : Nat → Prop} {h g n cap : Nat} {w : World} {L : List (Tm × Value)} (H : OwnTs p h w (.slice (some ⟨g, 0, none⟩) n cap) L) (hl : L.length = n) {k i : Nat} (hk : k < n) (hi : i < L.length) :
    OwnTs p h ((((w.setCell ⟨g, k * 4, none⟩ (.int .i64 L[i].1.kind)).setCell ⟨g, k * 4 + 1, none⟩ (.int .i64 L[i].1.num)).setCell ⟨g, k * 4 + 2, none⟩ (.string L[i].1.name)).setCell ⟨g, k * 4 + 3, none⟩ L[i].2) (.slice (some ⟨g, 0, none⟩) n cap) (L.set k L[i]) := by
  have hf : ∀ {b : Nat}, b ≠ g → ((((w.setCell ⟨g, k * 4, none⟩ (.int .i64 L[i].1.kind)).setCell ⟨g, k * 4 + 1, none⟩ (.int .i64 L[i].1.num)).setCell ⟨g, k * 4 + 2, none⟩ (.string L[i].1.name)).setCell ⟨g, k * 4 + 3, none⟩ L[i].2).heap[b]? = w.heap[b]? := fun hb => by
    rw [Below.heap_setCell _ _ _ _ hb, Below.heap_setCell _ _ _ _ hb, Below.heap_setCell _ _ _ _ hb, Below.heap_setCell _ _ _ _ hb]
  refine ⟨?_, fun x hx => ?_⟩
  · rw [show L.set k L[i] = L.set k (L[i].1, L[i].2) from rfl, tmCs_set L k (by omega), List.length_set]
    have ho := H.own
    rw [hl] at ho ⊢
    exact own_store (own_store (own_store (own_store ho (k * 4) (by omega) _) (k * 4 + 1) (by omega) _) (k * 4 + 2) (by omega) _) (k * 4 + 3) (by omega) _
  · have hx' : x ∈ L := by
      rcases List.mem_or_eq_of_mem_set hx with hx | rfl
      · exact hx
      · exact List.getElem_mem hi
    exact (H.tms x hx').mono fun b _ hp => ⟨hp, hf fun e => hp.1 (by simp [Value.ownBlock, e])⟩
/-- its first k terms, where what stands behind them is gone -/
theorem ownTs_front {p : Nat → Prop} {h g n cap : Nat} {w w' : World} {L : List (Tm × Value)} (H : OwnTs p h w (.slice (some ⟨g, 0, none⟩) n cap) L) (hp : ∀ b, p b → h ≤ b) {k : Nat} (hk : k ≤ L.length) (_hk1 : 0 < k) (hs : w.heap.size ≤ w'.heap.size)
    (hb : ∀ b, b ≠ g → w'.heap[b]? = w.heap[b]?) (hc : ∀ j, j < k * 4 → w'.cell? ⟨g, j, none⟩ = w.cell? ⟨g, j, none⟩) : TsAt (fun b => h ≤ b) w' (.slice (some ⟨g, 0, none⟩) k cap) ((L.take k).map Prod.fst) := by
  rcases H.own.2 with ⟨he, _⟩ | ⟨g', cap', cur, he, hg, hgg, h1, h2, _⟩
  · cases he
  simp only [Value.slice.injEq, Option.some.injEq, Addr.mk.injEq, and_true] at he
  obtain ⟨rfl, rfl, rfl⟩ := he
  have hgl : g < w.heap.size := (Array.getElem?_eq_some_iff.1 hgg).1
  refine TsAt.of_sl (n := k) ⟨by rw [tmCs_len, List.length_take]; omega, some ⟨g, 0, none⟩, cap, rfl, by omega, h2, (fun h => by cases h), fun _ => ⟨g, 0, rfl, by omega, fun j hj => ?_⟩⟩ (fun b hb => ?_) (fun x hx => ?_)
  · rw [Nat.zero_add, hc j hj, ownTs_cell H j (by omega)]
    rw [← List.take_append_drop k L, tmCs_append, List.getElem?_append_left (by rw [tmCs_len, List.length_take]; omega)]
    congr 2
    simp
  · simp only [Value.ownBlock, Option.some.injEq] at hb; omega
  · exact (H.tms x (List.mem_of_mem_take hx)).mono fun b _ hpb => ⟨hp b hpb.2, hb b fun e => hpb.1 (by simp [Value.ownBlock, e])⟩
theorem zero_len (n : Nat) : (Builtin.zeroCells (Value.agg #[.int .i64 0, .int .i64 0, .string ByteArray.empty, .slice none 0 0]).cells n).toList.length = n * 4 := by
  have e : (Value.agg #[.int .i64 0, .int .i64 0, .string ByteArray.empty, .slice none 0 0]).cells = #[.int .i64 0, .int .i64 0, .string ByteArray.empty, .slice none 0 0] := rfl
  rw [e]; simp [Builtin.zeroCells]
theorem zero_one (n : Nat) : ∀ v ∈ (Builtin.zeroCells (Value.agg #[.int .i64 0, .int .i64 0, .string ByteArray.empty, .slice none 0 0]).cells n).toList, v.oneCell' = true := by
  have e : (Value.agg #[.int .i64 0, .int .i64 0, .string ByteArray.empty, .slice none 0 0]).cells = #[.int .i64 0, .int .i64 0, .string ByteArray.empty, .slice none 0 0] := rfl
  rw [e]
  intro v hv
  obtain ⟨j, hj, rfl⟩ := List.getElem_of_mem hv
  simp only [Builtin.zeroCells, Array.toList_map, List.getElem_map]
  rcases (by omega : ∀ m, m % 4 = 0 ∨ m % 4 = 1 ∨ m % 4 = 2 ∨ m % 4 = 3) j with h | h | h | h <;> simp_all [Value.oneCell']
theorem cells_two {W : World} {b1 o1 b2 o2 : Nat} {ta tb : Tm} {u v : Value} (h : CellsT W b1 o1 ta u ∧ CellsT W b2 o2 tb v) :
    W.cell? ⟨b1, o1, none⟩ = some (.int .i64 ta.kind) ∧ W.cell? ⟨b1, o1 + 1, none⟩ = some (.int .i64 ta.num) ∧ W.cell? ⟨b1, o1 + 2, none⟩ = some (.string ta.name) ∧ W.cell? ⟨b1, o1 + 3, none⟩ = some u ∧ W.cell? ⟨b2, o2, none⟩ = some (.int .i64 tb.kind) ∧ W.cell? ⟨b2, o2 + 1, none⟩ = some (.int .i64 tb.num) ∧ W.cell? ⟨b2, o2 + 2, none⟩ = some (.string tb.name) ∧ W.cell? ⟨b2, o2 + 3, none⟩ = some v :=
  ⟨h.1.c0, h.1.c1, h.1.c2, h.1.c3, h.2.c0, h.2.c1, h.2.c2, h.2.c3⟩
end Go.Proofs.Ytmffobadnmkpbaa
namespace Go.Proofs.Ytmffobadnmkpbaa
open Go.RowKit

set_option maxRecDepth 100000 in
set_option maxHeartbeats 6400000 in
theorem compactT_c {n cap h g : Nat} {w : World} (L : List (Tm × Value)) (hl : L.length = n) (hn : n ≤ 4096) (hh : h ≤ w.heap.size) (ho : OwnTs (fun b => h ≤ b) h w (.slice (some ⟨g, 0, none⟩) n cap) L) (hs : Sorted (L.map Prod.fst)) :
    Calls Try.prog 78 #[.slice (some ⟨g, 0, none⟩) n cap, .func (.func 79) #[] #[]] w fun e w' => ∃ ao c R, e = .returned (.slice ao R.length c) ∧ TsAt (fun b => h ≤ b) w' (.slice ao R.length c) R ∧ Dd (L.map Prod.fst) L.length R ∧ Below h w w' := by
  obtain ⟨hgh, hgw, hcap, hcm⟩ : h ≤ g ∧ g < w.heap.size ∧ n ≤ cap ∧ cap ≤ maxLen := by
    rcases ho.own.2 with ⟨he, _⟩ | ⟨g', cap', cur, he, hg, hgg, h1, h2, _⟩
    · cases he
    · simp only [Value.slice.injEq, Option.some.injEq, Addr.mk.injEq, and_true] at he
      obtain ⟨rfl, rfl, rfl⟩ := he
      exact ⟨hg, (Array.getElem?_eq_some_iff.1 hgg).1, by omega, h2⟩
  unfold maxLen at hcm
  have HL := Lib.hid hl
  have HO := Lib.hid ho
  have HSR := Lib.hid hs
  clear ho hs
  by_cases h2 : n < 2
  · have HR : Hid (TsAt (fun b => h ≤ b) w (.slice (some ⟨g, 0, none⟩) n cap) (L.map Prod.fst)) := by
      refine TsAt.of_sl (n := n) ?_ (fun b hb => by simp only [Value.ownBlock, Option.some.injEq] at hb; omega) (fun x hx => (HO.out.tms x hx).mono fun b _ hp => ⟨hp.2, rfl⟩)
      have h := SlAt.of_own HO.out.own
      rw [hl] at h; exact h
    clear hl
    go_enter Try.func78, Try.ntmps78
    go_wp2
    go_ret
    have hlm : (L.map Prod.fst).length = n := by rw [List.length_map]; exact HL.out
    refine ⟨some ⟨g, 0, none⟩, cap, L.map Prod.fst, congrArg (fun m => Ending.returned (.slice (some ⟨g, 0, none⟩) m cap)) hlm.symm, by rw [hlm]; exact HR.out, ?_, Below.refl _ _⟩
    have := Dd.short (l := L.map Prod.fst) (by rw [hlm]; exact h2)
    rw [List.length_map] at this
    exact this
  clear hl
  go_enter Try.func78, Try.ntmps78
  go_wp2
  go_loopg [5] (n - 1) (fun f s wr => ∃ k : Nat, 1 ≤ k ∧ k ≤ n ∧ s = .int .i64 k ∧ Hid (f = n - k) ∧ Hid (Below w.heap.size w wr) ∧ Hid (Dd (L.map Prod.fst) k ((L.map Prod.fst).take k)))
  case atStart => exact ⟨1, by omega, by omega, rfl, rfl, Below.refl _ _, Dd.one _ (by rw [List.length_map, HL.out]; omega)⟩
  case round =>
    obtain ⟨k, hk1, hk, rfl, HN, HW, HD⟩ := hrel
    have HO2 : Hid (OwnTs (fun b => h ≤ b) h wr (.slice (some ⟨g, 0, none⟩) n cap) L) := HO.out.below HW.out
    have hwz := HW.out.size
    by_cases hlt : k < n
    · have hkL : k < L.length := by rw [HL.out]; exact hlt
      have hkL2 : k - 1 < L.length := by rw [HL.out]; omega
      have c1 := ownTs_cells HO2.out k hkL
      have c2 := ownTs_cells HO2.out (k - 1) hkL2
      have t1 := HO2.out.tms L[k] (List.getElem_mem hkL)
      have t2 := HO2.out.tms L[k - 1] (List.getElem_mem hkL2)
      have HDs : Hid (cmpT L[k].1 L[k - 1].1 = 0 → Dd (L.map Prod.fst) (k + 1) ((L.map Prod.fst).take k)) := fun he => HD.out.same hk1 (by rw [List.length_map]; exact hkL) (by simpa using he)
      have HDo : Hid (cmpT L[k].1 L[k - 1].1 ≠ 0 → Dd (L.map Prod.fst) (k + 1) ((L.map Prod.fst).take (k + 1))) := fun he => by
        have := HD.out.other HSR.out hk1 (by rw [List.length_map]; exact hkL) (by simpa using he)
        rwa [List.take_succ_eq_append_getElem (by rw [List.length_map]; exact hkL)]
      obtain ⟨p1, q1, e1, _⟩ := t1.shape
      obtain ⟨p2, q2, e2, _⟩ := t2.shape
      rw [e1] at c1 t1
      rw [e2] at c2 t2
      clear e1 e2
      generalize L[k].1 = a at *
      generalize L[k - 1].1 = b at *
      clear hkL hkL2
      have CX : Hid (∀ W, Below wr.heap.size wr W → Calls Try.prog 79 #[.agg #[.int .i64 a.kind, .int .i64 a.num, .string a.name, .slice p1 a.args.length q1], .agg #[.int .i64 b.kind, .int .i64 b.num, .string b.name, .slice p2 b.args.length q2]] W fun e w' => e = .returned (.bool (cmpT a b == 0)) ∧ Below W.heap.size W w') := fun W h =>
        sortEq_c a b _ _ W (t1.any.later h) (t2.any.later h)
      have KK : Hid (∀ W, Below wr.heap.size wr W → CellsT W g (k * 4) a (.slice p1 a.args.length q1) ∧ CellsT W g ((k - 1) * 4) b (.slice p2 b.args.length q2)) := fun W h => ⟨c1.block (h.block _ c1.lt), c2.block (h.block _ c2.lt)⟩
      obtain ⟨x0, x1, x2, x3⟩ := c1
      obtain ⟨y0, y1, y2, y3⟩ := c2
      have hgr : g < wr.heap.size := by omega
      have ki1 : (1 : Int) ≤ k := by omega
      have kiw : IntKind.i64.wrap ((k : Int) - 1) = (k : Int) - 1 := by simp [IntKind.wrap, IntKind.bits, IntKind.signed]; omega
      have ki0 : (0 : Int) ≤ (k : Int) - 1 := by omega
      have kin : (k : Int) - 1 < n := by omega
      have kit : ((k : Int) - 1).toNat = k - 1 := by omega
      generalize cmpT a b = z at *
      clear t1 t2
      go_upto_region 6 with (fail)
      go_region_held3 (fun W => W.cell? ⟨g, k * 4, none⟩ = some (.int .i64 a.kind) ∧ W.cell? ⟨g, k * 4 + 1, none⟩ = some (.int .i64 a.num) ∧ W.cell? ⟨g, k * 4 + 2, none⟩ = some (.string a.name) ∧ W.cell? ⟨g, k * 4 + 3, none⟩ = some (.slice p1 a.args.length q1) ∧ W.cell? ⟨g, (k - 1) * 4, none⟩ = some (.int .i64 b.kind) ∧ W.cell? ⟨g, (k - 1) * 4 + 1, none⟩ = some (.int .i64 b.num) ∧ W.cell? ⟨g, (k - 1) * 4 + 2, none⟩ = some (.string b.name) ∧ W.cell? ⟨g, (k - 1) * 4 + 3, none⟩ = some (.slice p2 b.args.length q2))
        ((first | exact cells_two (KK.out _ P2.out) | (refine cells_two (KK.out _ ?_); go_grown)))
        (first | (go_at_call 79; refine (CX.out _ ?_).mono ?_; (· go_grown); rintro e W2 ⟨rfl, bb⟩; have P2 : Hid (Below wr.heap.size wr W2) := Below.trans (B := wr.heap.size) (by go_grown) (bb.mono (by go_size))))
      clear x0 x1 x2 x3 y0 y1 y2 y3
      have B2 : Hid (Below w.heap.size w W2) := HW.out.trans (P2.out.mono HW.out.size)
      by_cases hz : z = 0
      · subst hz
        have D1 := Lib.hid (HDs.out rfl)
        have O2 : Hid (OwnTs (fun b => h ≤ b) h W2 (.slice (some ⟨g, 0, none⟩) n cap) L) := HO.out.below B2.out
        clear HDs HDo CX KK HD HO2 HN hwz hgr kiw ki0 kin kit ki1
        have hgr2 : g < W2.heap.size := by have := B2.out.size; omega
        go_wp2
        go_loopg [5, 7] (n - (k + 1)) (fun f s s7 wr => ∃ (i j : Nat) (Q : List (Tm × Value)), s = .int .i64 i ∧ s7 = .int .i64 j ∧ 1 ≤ j ∧ k + j ≤ n ∧ k ≤ i ∧ i + 1 ≤ k + j ∧ Hid (f = n - (k + j)) ∧ Hid (OwnTs (fun b => h ≤ b) h wr (.slice (some ⟨g, 0, none⟩) n cap) Q) ∧ Hid (Q.length = n) ∧ Hid (Below h w wr) ∧ Hid (Dd (L.map Prod.fst) (k + j) ((Q.take i).map Prod.fst)) ∧ Hid (Q.drop (k + j - 1) = L.drop (k + j - 1)))
        case atStart => exact ⟨k, 1, L, rfl, rfl, by omega, by omega, by omega, by omega, rfl, O2, HL, B2.out.mono hh, by rw [List.map_take]; exact D1.out, rfl⟩
        case round =>
          obtain ⟨i, j, Q, rfl, rfl, hj1, hkj, hki, hij, HN, HW3, HQ, HB3, HD3, HR3⟩ := hrel
          have hwz3 := HB3.out.size
          have hgr3 : g < wr.heap.size := by omega
          by_cases hlt3 : k + j < n
          · have hq1 : k + j < Q.length := by rw [HQ.out]; exact hlt3
            have hq2 : k + j - 1 < Q.length := by rw [HQ.out]; omega
            have hL1 : k + j < L.length := by rw [HL.out]; exact hlt3
            have hL2 : k + j - 1 < L.length := by rw [HL.out]; omega
            have eB : Q[k + j - 1] = L[k + j - 1] := by
              have h := congrArg (fun l : List (Tm × Value) => l[0]?) HR3.out
              simp only [List.getElem?_drop, Nat.add_zero] at h
              rw [List.getElem?_eq_getElem hq2, List.getElem?_eq_getElem hL2] at h
              exact Option.some.inj h
            have eA : Q[k + j] = L[k + j] := by
              have h := congrArg (fun l : List (Tm × Value) => l[1]?) HR3.out
              simp only [List.getElem?_drop] at h
              rw [show k + j - 1 + 1 = k + j by omega] at h
              rw [List.getElem?_eq_getElem hq1, List.getElem?_eq_getElem hL1] at h
              exact Option.some.inj h
            have HDr : Hid (Q.drop (k + j) = L.drop (k + j)) := by
              have h := congrArg (List.drop 1) HR3.out
              rw [List.drop_drop, List.drop_drop, show k + j - 1 + 1 = k + j by omega] at h
              exact h
            have c1 := ownTs_cells HW3.out (k + j) hq1
            have c2 := ownTs_cells HW3.out (k + j - 1) hq2
            have t1 := HW3.out.tms Q[k + j] (List.getElem_mem hq1)
            have t2 := HW3.out.tms Q[k + j - 1] (List.getElem_mem hq2)
            have HM : Hid (∀ W, Below wr.heap.size wr W → OwnTs (fun b => h ≤ b) h ((((W.setCell ⟨g, i * 4, none⟩ (.int .i64 Q[k + j].1.kind)).setCell ⟨g, i * 4 + 1, none⟩ (.int .i64 Q[k + j].1.num)).setCell ⟨g, i * 4 + 2, none⟩ (.string Q[k + j].1.name)).setCell ⟨g, i * 4 + 3, none⟩ Q[k + j].2) (.slice (some ⟨g, 0, none⟩) n cap) (Q.set i Q[k + j])) := fun W hb => ownTs_move (HW3.out.below hb) HQ.out (by omega) hq1
            have HDs : Hid (cmpT Q[k + j].1 Q[k + j - 1].1 = 0 → Dd (L.map Prod.fst) (k + (j + 1)) ((Q.take i).map Prod.fst)) := fun he => HD3.out.same (by omega) (by rw [List.length_map]; exact hL1) (by rw [eA, eB] at he; simpa using he)
            have HDo : Hid (cmpT Q[k + j].1 Q[k + j - 1].1 ≠ 0 → Dd (L.map Prod.fst) (k + (j + 1)) (((Q.set i Q[k + j]).take (i + 1)).map Prod.fst)) := fun he => by
              have h := HD3.out.other HSR.out (by omega) (by rw [List.length_map]; exact hL1) (by rw [eA, eB] at he; simpa using he)
              rw [List.take_succ_eq_append_getElem (by rw [List.length_set]; omega), List.take_set_of_le (Nat.le_refl i), List.map_append]
              rw [eA, ← Nat.add_assoc]
              simpa using h
            obtain ⟨p1, q1, e1, _⟩ := t1.shape
            obtain ⟨p2, q2, e2, _⟩ := t2.shape
            rw [e1] at c1 t1 HM
            rw [e2] at c2 t2
            rw [show (k + j) * 4 = k * 4 + j * 4 by omega] at c1
            rw [show (k + j - 1) * 4 = k * 4 + (j - 1) * 4 by omega] at c2
            clear e1 e2 eA eB hL1 hL2
            have HS1 : Hid (∀ x, (Q.set i x).length = n ∧ (Q.set i x).drop (k + (j + 1) - 1) = L.drop (k + (j + 1) - 1)) := fun x => ⟨by rw [List.length_set]; exact HQ.out, by rw [List.drop_set_of_lt (by omega)]; exact HDr.out⟩
            generalize hx : Q[k + j] = x at *
            have HX := Lib.hid hx
            clear hx
            generalize x.1 = a at *
            generalize Q[k + j - 1].1 = b at *
            clear HX hq1 hq2
            have CX : Hid (∀ W, Below wr.heap.size wr W → Calls Try.prog 79 #[.agg #[.int .i64 a.kind, .int .i64 a.num, .string a.name, .slice p1 a.args.length q1], .agg #[.int .i64 b.kind, .int .i64 b.num, .string b.name, .slice p2 b.args.length q2]] W fun e w' => e = .returned (.bool (cmpT a b == 0)) ∧ Below W.heap.size W w') := fun W h =>
              sortEq_c a b _ _ W (t1.any.later h) (t2.any.later h)
            have KK : Hid (∀ W, Below wr.heap.size wr W → CellsT W g (k * 4 + j * 4) a (.slice p1 a.args.length q1) ∧ CellsT W g (k * 4 + (j - 1) * 4) b (.slice p2 b.args.length q2)) := fun W h => ⟨c1.block (h.block _ c1.lt), c2.block (h.block _ c2.lt)⟩
            obtain ⟨x0, x1, x2, x3⟩ := c1
            obtain ⟨y0, y1, y2, y3⟩ := c2
            have jiw : IntKind.i64.wrap ((j : Int) - 1) = (j : Int) - 1 := by simp [IntKind.wrap, IntKind.bits, IntKind.signed]; omega
            have ji1 : (1 : Int) ≤ j := by omega
            have ji0 : (0 : Int) ≤ (j : Int) - 1 := by omega
            have jin : (j : Int) - 1 < (n - k : Nat) := by omega
            have jin2 : (j : Int) < (n - k : Nat) := by omega
            have jin3 : (j : Int) ≤ (n - k : Nat) := by omega
            have jin4 : j ≤ n - k := by omega
            have jit : ((j : Int) - 1).toNat = j - 1 := by omega
            generalize cmpT a b = z at *
            clear t1 t2
            generalize hr : (z == 0) = r at CX
            have HRz := Lib.hid hr
            clear hr
            go_upto_region 11 with (fail)
            go_region_held3 (fun W => W.cell? ⟨g, k * 4 + j * 4, none⟩ = some (.int .i64 a.kind) ∧ W.cell? ⟨g, k * 4 + j * 4 + 1, none⟩ = some (.int .i64 a.num) ∧ W.cell? ⟨g, k * 4 + j * 4 + 2, none⟩ = some (.string a.name) ∧ W.cell? ⟨g, k * 4 + j * 4 + 3, none⟩ = some (.slice p1 a.args.length q1) ∧ W.cell? ⟨g, k * 4 + (j - 1) * 4, none⟩ = some (.int .i64 b.kind) ∧ W.cell? ⟨g, k * 4 + (j - 1) * 4 + 1, none⟩ = some (.int .i64 b.num) ∧ W.cell? ⟨g, k * 4 + (j - 1) * 4 + 2, none⟩ = some (.string b.name) ∧ W.cell? ⟨g, k * 4 + (j - 1) * 4 + 3, none⟩ = some (.slice p2 b.args.length q2))
              ((first | exact cells_two (KK.out _ P3.out) | (refine cells_two (KK.out _ ?_); go_grown)))
              (first | (go_at_call 79; refine (CX.out _ ?_).mono ?_; (· go_grown); rintro e W3 ⟨rfl, bb⟩; have P3 : Hid (Below wr.heap.size wr W3) := Below.trans (B := wr.heap.size) (by go_grown) (bb.mono (by go_size))))
            clear x0 x1 x2 x3 y0 y1 y2 y3
            have hs3 := P3.out.size
            cases r with
            | true =>
              have D5 := Lib.hid (HDs.out (by have h := HRz.out; simpa using h))
              go_wp2
              go_roundg (n - (k + (j + 1)))
              case measure => have := HN.out; omega
              case rel => exact ⟨i, j + 1, Q, rfl, by go_num, by omega, by omega, by omega, by omega, rfl, HW3.out.below P3.out, HQ, HB3.out.trans (P3.out.mono (by omega)), D5, Lib.hid HDr.out⟩
            | false =>
              have D5 := Lib.hid (HDo.out (by have h := HRz.out; simpa using h))
              clear HDs HDo
              obtain ⟨x0, x1, x2, x3⟩ := (KK.out _ P3.out).1
              have OW := Lib.hid (HW3.out.below P3.out)
              obtain ⟨v0, v1, v2, v3⟩ := ownTs_cells OW.out i (by rw [HQ.out]; omega)
              have g0 := ownTs_loose OW.out (i * 4)
              have g1 := ownTs_loose OW.out (i * 4 + 1)
              have g2 := ownTs_loose OW.out (i * 4 + 2)
              have g3 := ownTs_loose OW.out (i * 4 + 3)
              have B5 : Hid (Below h w ((((W3.setCell ⟨g, i * 4, none⟩ (.int .i64 a.kind)).setCell ⟨g, i * 4 + 1, none⟩ (.int .i64 a.num)).setCell ⟨g, i * 4 + 2, none⟩ (.string a.name)).setCell ⟨g, i * 4 + 3, none⟩ (.slice p1 a.args.length q1))) :=
                ((((HB3.out.trans (P3.out.mono (by omega))).setCell (p := ⟨g, i * 4, none⟩) hgh _).setCell (p := ⟨g, i * 4 + 1, none⟩) hgh _).setCell (p := ⟨g, i * 4 + 2, none⟩) hgh _).setCell (p := ⟨g, i * 4 + 3, none⟩) hgh _
              have hgr4 : g < W3.heap.size := by omega
              go_wp2
              go_roundg (n - (k + (j + 1)))
              case measure => have := HN.out; omega
              case rel => exact ⟨i + 1, j + 1, _, by go_num, by go_num, by omega, by omega, by omega, by omega, rfl, HM.out _ P3.out, (HS1.out _).1, B5, D5, (HS1.out _).2⟩
          · have hkn : k + j = n := by omega
            have hi0 : 0 < n - i := by omega
            have zlen := zero_len (n - i)
            obtain ⟨vs, hcl⟩ : ∃ vs, ∀ ty, (Builtin.clear_ #[22] ty #[.slice (some ⟨g, i * 4, none⟩) (n - i) (cap - i)]).run Try.prog wr = .ok (.tuple #[]) (wr.setCells g (i * 4) vs) :=
              ⟨_, fun ty => run_clear_cells wr 22 24 ty _ Try.underlying22 Try.zeroValue24 g (i * 4) (n - i) (cap - i) hi0 (zero_one _) (fun m hm => ownTs_isSome HW3.out _ (by rw [HQ.out]; have := Nat.lt_of_lt_of_eq hm zlen; omega)) (fun m => ownTs_loose HW3.out m)⟩
            have HT : Hid (TsAt (fun b => h ≤ b) (wr.setCells g (i * 4) vs) (.slice (some ⟨g, 0, none⟩) i cap) ((Q.take i).map Prod.fst)) := ownTs_front HW3.out (fun _ h => h) (by rw [HQ.out]; omega) (by omega) (below_setCells h g hgh vs _ _).size (fun b hb => heap_setCells g b hb vs _ _) (fun m hm => World.cell?_setCells_out g vs _ _ _ (fun _ _ => Or.inl (by show m < i * 4; omega)))
            have HB6 : Hid (Below h w (wr.setCells g (i * 4) vs)) := HB3.out.trans (below_setCells h g hgh vs _ _)
            have HD6 : Hid (Dd (L.map Prod.fst) L.length ((Q.take i).map Prod.fst)) := by have h := HD3.out; rw [hkn, ← HL.out] at h; exact h
            have hlr : ((Q.take i).map Prod.fst).length = i := by rw [List.length_map, List.length_take, HQ.out]; omega
            have HLR := Lib.hid hlr
            clear hlr hkn
            generalize wr.setCells g (i * 4) vs = W6 at *
            go_wp2
            go_ret
            exact ⟨some ⟨g, 0, none⟩, cap, (Q.take i).map Prod.fst, congrArg (fun m => Ending.returned (.slice (some ⟨g, 0, none⟩) m cap)) HLR.out.symm, by rw [HLR.out]; exact HT.out, HD6.out, HB6.out⟩
      · have D5 := Lib.hid (HDo.out hz)
        have hzb : (z == 0) = false := by simpa using hz
        clear hz HDs HDo
        go_wp2
        go_roundg (n - (k + 1))
        case measure => have := HN.out; omega
        case rel => exact ⟨k + 1, by omega, by omega, by go_num, rfl, B2, D5⟩
    · obtain rfl : k = n := by omega
      have HR : Hid (TsAt (fun b => h ≤ b) wr (.slice (some ⟨g, 0, none⟩) k cap) (L.map Prod.fst)) := by
        refine TsAt.of_sl (n := k) ?_ (fun b hb => by simp only [Value.ownBlock, Option.some.injEq] at hb; omega) (fun x hx => (HO2.out.tms x hx).mono fun b _ hp => ⟨hp.2, rfl⟩)
        have h := SlAt.of_own HO2.out.own
        rw [HL.out] at h; exact h
      go_wp2
      go_ret
      have hlm : (L.map Prod.fst).length = k := by rw [List.length_map]; exact HL.out
      refine ⟨some ⟨g, 0, none⟩, cap, L.map Prod.fst, congrArg (fun m => Ending.returned (.slice (some ⟨g, 0, none⟩) m cap)) hlm.symm, by rw [hlm]; exact HR.out, ?_, HW.out.mono hh⟩
      have h := HD.out
      rw [← hlm, List.take_length, List.length_map] at h
      exact h
end Go.Proofs.Ytmffobadnmkpbaa
namespace Go.Proofs.Ytmffobadnmkpbaa
open Go.RowKit

def MapCopy (S : World → Prop) (σ : Nat → Tm) (t : Tm) : Prop := ∀ (va : Value) (w : World), TmAt (fun _ => True) w t va → t.ok → S w → t.size ≤ 1000000 → Calls Try.prog 72 #[tmV t va, .func (.func 108) #[] #[]] w (RetTm7 (mapT σ t) w)
set_option maxRecDepth 100000 in
set_option maxHeartbeats 6400000 in
theorem mapCopy_step (S : World → Prop) (σ : Nat → Tm) (hS : ∀ w W, S w → Below w.heap.size w W → S W)
    (hF : ∀ (n : Nat) (W : World), S W → Calls Try.prog 108 #[.agg #[.int .i64 1, .int .i64 n, .string ByteArray.empty, .slice none 0 0]] W (RetTm7 (σ n) W))
    (t : Tm) (va : Value) (w : World) (ht : TmAt (fun _ => True) w t va) (hok : t.ok) (hs : S w) (hn : t.size ≤ 1000000) (hC : ∀ u ∈ t.args, MapCopy S σ u) :
    Calls Try.prog 72 #[tmV t va, .func (.func 108) #[] #[]] w (RetTm7 (mapT σ t) w) := by
  have h4 := fun h => ht.nil_of h
  obtain ⟨ao, cc, rfl, hc1, hc2⟩ := ht.shape
  obtain ⟨i0, hi, hz0, hz1, hz2⟩ := info_parts Try.infoTerm
  have al : ∀ (W : World) (o : Obj) (B : Nat), B ≤ W.heap.size → Below B W (W.alloc o) := fun W o B h => (Below.refl B W).alloc h o
  have AL := Lib.hid al
  have HSS := Lib.hid hS
  have HSW := Lib.hid hs
  obtain ⟨V, hV⟩ : ∃ V, V = ((w.alloc (.cells #[.int .i64 t.kind, .int .i64 t.num, .string t.name, .slice ao t.args.length cc] 24)).alloc (.cells #[.int .i64 0, .int .i64 0, .string ⟨#[]⟩, .slice none 0 0] 24)) := ⟨_, rfl⟩
  have BV : Hid (Below w.heap.size w V) := by rw [hV]; exact (al _ _ _ (Nat.le_refl _)).trans (al _ _ _ (by simp))
  have hsV : V.heap.size = w.heap.size + 2 := by rw [hV]; simp
  have XV : Hid (BoxL V w.heap.size [.int .i64 t.kind, .int .i64 t.num, .string t.name, .slice ao t.args.length cc]) := by rw [hV]; exact (BoxL.mk' w #[.int .i64 t.kind, .int .i64 t.num, .string t.name, .slice ao t.args.length cc] 24).below (al _ _ (w.heap.size + 1) (by simp)) (by omega)
  have ZV : Hid (BoxL V (w.heap.size + 1) [.int .i64 0, .int .i64 0, .string ⟨#[]⟩, .slice none 0 0]) := by
    rw [hV]
    have h := BoxL.mk' (w.alloc (.cells #[.int .i64 t.kind, .int .i64 t.num, .string t.name, .slice ao t.args.length cc] 24)) #[.int .i64 0, .int .i64 0, .string ⟨#[]⟩, .slice none 0 0] 24
    simp only [World.size_alloc] at h
    exact h
  have HS := Lib.hid hsV
  obtain ⟨⟨x0, x1, x2, x3⟩, _⟩ := box4c XV.out
  obtain ⟨⟨z0, z1, z2, z3⟩, f0, f1, f2, f3⟩ := box4c ZV.out
  by_cases hk : t.kind = 1
  · obtain ⟨n, rfl, hn5⟩ := Tm.ok_var hok hk
    have CP : Hid (∀ W, Below w.heap.size w W → Calls Try.prog 108 #[.agg #[.int .i64 1, .int .i64 n, .string ByteArray.empty, .slice none 0 0]] W fun e w' => ∃ pa qa, e = .returned (.agg #[.int .i64 (σ n).kind, .int .i64 (σ n).num, .string (σ n).name, .slice pa (σ n).args.length qa]) ∧ TmAt (fun b => W.heap.size ≤ b) w' (σ n) (.slice pa (σ n).args.length qa) ∧ Below W.heap.size W w') := fun W h => hF n W (hS w W hs h)
    have he := h4 (by simp [Tm.kind])
    simp only [Value.slice.injEq, Tm.args, List.length_nil] at he
    obtain ⟨rfl, -, rfl⟩ := he
    have hG : mapT σ (.var n) = σ n := by simp only [mapT]
    rw [hG]
    generalize σ n = G at *
    change Calls _ _ #[.agg #[.int .i64 1, .int .i64 n, .string ByteArray.empty, .slice none 0 0], _] _ (RetTm7 G w)
    have x0' : V.cell? ⟨w.heap.size, 0, none⟩ = some (.int .i64 1) := x0
    have x1' : V.cell? ⟨w.heap.size, 1, none⟩ = some (.int .i64 n) := x1
    have x2' : V.cell? ⟨w.heap.size, 2, none⟩ = some (.string ByteArray.empty) := x2
    have x3' : V.cell? ⟨w.heap.size, 3, none⟩ = some (.slice none 0 0) := x3
    have hV' : V = ((w.alloc (.cells #[.int .i64 1, .int .i64 n, .string ByteArray.empty, .slice none 0 0] 24)).alloc (.cells #[.int .i64 0, .int .i64 0, .string ⟨#[]⟩, .slice none 0 0] 24)) := hV
    clear ht hok hs hn hC h4 hk hc1 hc2 hV hsV hG hF hS x0 x1 x2 x3 al
    go_enter Try.func72, Try.ntmps72
    go_upto_region 1 with (fail)
    rw [← hV']
    clear hV'
    go_wp2_with (first | (go_at_call 108; ((with_reducible refine (CP.out _ BV.out).mono ?_); rintro e W2 ⟨pa, qa, rfl, tg, bb⟩; have Z2 := Lib.hid (ZV.out.block (bb.block _ (by have := HS.out; omega))); have B2 := Lib.hid (BV.out.trans (bb.mono BV.out.size)); have TG := Lib.hid tg; clear z0 z1 z2 z3 f0 f1 f2 f3; obtain ⟨⟨z0, z1, z2, z3⟩, f0, f1, f2, f3⟩ := box4c Z2.out; clear bb tg)))
    refine post_gen7 fun W9 hW9 => ?_
    have hr := Res4.mk' (W9 := W9) (G := G) (a := .slice pa G.args.length qa) Z2.out B2.out (TG.out.mono fun b _ hp => ⟨by have := HS.out; omega, rfl⟩) hW9
    clear z0 z1 z2 z3 f0 f1 f2 f3
    obtain ⟨⟨z0, z1, z2, z3⟩, -⟩ := box4c hr.box
    refine bodyPost_ret (v := .agg #[.int .i64 G.kind, .int .i64 G.num, .string G.name, .slice pa G.args.length qa]) (by simp [results, Try.results72, go_sem, z0, z1, z2, z3]; try rfl) rfl ?_
    exact ⟨pa, qa, rfl, hr.at', hr.bel⟩
  · have hkb : (t.kind == 1) = false := by simpa using hk
    by_cases hk4 : t.kind = 4
    · obtain ⟨s, l, rfl⟩ : ∃ s l, t = .cmp s l := by cases t <;> simp [Tm.kind] at hk4; exact ⟨_, _, rfl⟩
      have hl0 : 0 < l.length := by cases hok; assumption
      have HT := Lib.hid (TsAt.of_tm ht)
      have HC := Lib.hid hC
      have HOK := Lib.hid (Tm.ok_args hok)
      have HSZ : Hid (∀ u ∈ l, u.size ≤ 1000000) := fun u hu => by have := Tm.args_size (t := .cmp s l) (u := u) hu; omega
      have hll : l.length ≤ 1000000 := by have h1 := Tm.sizes_len l; simp only [Tm.size] at hn; omega
      simp only [Tm.args] at HT HC HOK
      rw [show mapT σ (.cmp s l) = .cmp s (mapTs σ l) from by simp only [mapT]]
      change Calls _ _ #[.agg #[.int .i64 4, .int .i64 0, .string s, .slice ao l.length cc], _] _ _
      have XV' : Hid (BoxL V w.heap.size [.int .i64 4, .int .i64 0, .string s, .slice ao l.length cc]) := XV
      have hV' : V = ((w.alloc (.cells #[.int .i64 4, .int .i64 0, .string s, .slice ao l.length cc] 24)).alloc (.cells #[.int .i64 0, .int .i64 0, .string ⟨#[]⟩, .slice none 0 0] 24)) := hV
      clear x0 x1 x2 x3
      obtain ⟨⟨x0, x1, x2, x3⟩, _⟩ := box4c XV'.out
      obtain ⟨W3, hmk, ho3, hg3⟩ := run_make_full (P := Try.prog) (w := V) (w.heap.size + 2) 22 24 i0 (.agg #[.int .i64 0, .int .i64 0, .string ByteArray.empty, .slice none 0 0]) 4 Try.underlying22 hi hz0 hz1 .i64 .i64 l.length (by rw [hz2]; omega) (by unfold maxLen; omega) (by omega)
      rw [hsV] at hmk ho3
      have N0 : Hid (ML (w.heap.size + 2) (w.heap.size + 2) l.length V W3 (List.replicate l.length zeroTV)) := by
        have hb : Below (w.heap.size + 2) V W3 := (Below.refl _ V).grown hg3 (by omega) (by simp)
        refine ⟨⟨?_, fun x hx => ?_⟩, by simp, hb, by have := hb.size; omega⟩
        · rw [tmCs_rep] at ho3; simpa using ho3
        · obtain ⟨-, rfl⟩ := List.mem_replicate.1 hx; exact .leaf rfl
      have hk1 : ((4 : Int) == 1) = false := rfl
      clear ht hok hs hn hC h4 hk hk4 hkb hc1 hc2 hV XV al hF hS ho3 hg3
      go_enter Try.func72, Try.ntmps72
      go_upto_region 1 with (fail)
      rw [← hV']
      clear hV'
      go_upto_region 6 with (fail)
      clear hmk x0 x1 x2 x3 z0 z1 z2 z3 f0 f1 f2 f3
      have X3 := XV'.out.block (N0.out.bel.block _ (by omega))
      obtain ⟨⟨x0, x1, x2, x3⟩, _⟩ := box4c X3
      clear hsV X3
      go_wp2
      go_loopg [24] l.length (fun n i wr => ∃ (k : Nat) (Q : List (Tm × Value)), k ≤ l.length ∧ i = .int .i64 k ∧ Hid (n = l.length - k) ∧ Hid (ML (w.heap.size + 2) (w.heap.size + 2) l.length V wr Q) ∧ Hid (Q.map Prod.fst = fillT σ l k))
      case atStart => exact ⟨0, _, by omega, rfl, rfl, N0, Lib.hid (by rw [fillT_zero, List.map_replicate]; rfl)⟩
      case round =>
        obtain ⟨k, Q, hk, rfl, HN, HW, HQ⟩ := hrel
        have HBw : Hid (Below w.heap.size w wr) := BV.out.trans (HW.out.bel.mono (by omega))
        have hXw := XV'.out.block (HW.out.bel.block _ (by have := HS.out; omega))
        clear x0 x1 x2 x3
        obtain ⟨⟨x0, x1, x2, x3⟩, _⟩ := box4c hXw
        have hwz := HW.out.sz
        by_cases hlt : k < l.length
        · have hki : (k : Int) < l.length := by omega
          obtain ⟨b, off, a1, rfl, -, hcc, hta⟩ := (HT.out.later HBw.out).get k hlt
          obtain ⟨p1, q1, rfl, _⟩ := hta.shape
          have hbl := hcc.lt
          have CX := Lib.hid (HC.out l[k] (List.getElem_mem hlt))
          have hou := HOK.out l[k] (List.getElem_mem hlt)
          have hsu := HSZ.out l[k] (List.getElem_mem hlt)
          have HQ2 : Hid (∀ q, (Q.set k (mapT σ l[k], q)).map Prod.fst = fillT σ l (k + 1)) := fun q => by rw [List.map_set, HQ.out, fillT_step σ l k hlt]
          generalize l[k] = u at *
          obtain ⟨c0, c1, c2, c3⟩ := hcc
          have CC : Hid (∀ W, Below wr.heap.size wr W → Calls Try.prog 72 #[.agg #[.int .i64 u.kind, .int .i64 u.num, .string u.name, .slice p1 u.args.length q1], .func (.func 108) #[] #[]] W fun e w' => ∃ pa qa, e = .returned (.agg #[.int .i64 (mapT σ u).kind, .int .i64 (mapT σ u).num, .string (mapT σ u).name, .slice pa (mapT σ u).args.length qa]) ∧ TmAt (fun b => wr.heap.size ≤ b) w' (mapT σ u) (.slice pa (mapT σ u).args.length qa) ∧ Below wr.heap.size wr w') := fun W h =>
            (CX.out _ W (hta.later h) hou (HSS.out w W HSW.out (HBw.out.trans (h.mono HBw.out.size))) hsu).mono fun e w' ⟨pa, qa, h1, h2, h3⟩ => ⟨pa, qa, h1, h2.mono fun b _ hp => ⟨Nat.le_trans h.size hp, rfl⟩, h.trans (h3.mono h.size)⟩
          generalize mapT σ u = G at *
          have hgz : w.heap.size + 2 < wr.heap.size := by obtain ⟨v0, v1, v2, v3, ⟨y0, -⟩, -⟩ := HW.out.cells k hlt; exact World.block_lt_of_cell? wr ⟨_, _, none⟩ y0
          clear hta CX hou hsu hXw
          go_wp2_with (first | (go_at_call 72; ((with_reducible refine (CC.out _ ?_).mono ?_); (· go_grown); rintro e W2 ⟨pa, qa, rfl, tg, bb⟩; have N2 := Lib.hid (HW.out.below bb); have TG := Lib.hid tg; obtain ⟨v0, v1, v2, v3, ⟨y0, y1, y2, y3⟩, hfz⟩ := N2.out.cells k hlt; have g0 := hfz (k * 4); have g1 := hfz (k * 4 + 1); have g2 := hfz (k * 4 + 2); have g3 := hfz (k * 4 + 3); clear bb tg hfz)))
          all_goals
            go_roundg (l.length - (k + 1))
            case measure => have := HN.out; omega
            case rel => exact ⟨k + 1, _, by omega, by go_num, rfl, Lib.hid (N2.out.store (Nat.le_refl _) hlt (TG.out.mono fun b _ hp => ⟨⟨by omega, by omega⟩, rfl⟩)), HQ2.out _⟩
        · obtain rfl : k = l.length := by omega
          have HQ3 : Hid (Q.map Prod.fst = mapTs σ l) := by have h := HQ.out; rw [fillT_all] at h; exact h
          have HQE : Hid (l.length = (Tm.cmp s (mapTs σ l)).args.length) := by show _ = _; simp [Tm.args, mapTs_eq]
          have HQL := HW.out.len
          have ZX := Lib.hid (ZV.out.block (HW.out.bel.block _ (by have := HS.out; omega)))
          obtain ⟨⟨z0, z1, z2, z3⟩, f0, f1, f2, f3⟩ := box4c ZX.out
          have HAT : Hid (TmAt (fun b => w.heap.size + 2 ≤ b) wr (.cmp s (mapTs σ l)) (.slice (some ⟨w.heap.size + 2, 0, none⟩) l.length l.length)) := HW.out.own.tm (fun _ h => h) s HQ3.out (by rw [mapTs_eq, List.length_map]; exact hl0)
          clear HQL
          go_wp2
          refine post_gen7 fun W9 hW9 => ?_
          have hr := Res4.mk' (W9 := W9) (G := .cmp s (mapTs σ l)) (a := .slice (some ⟨w.heap.size + 2, 0, none⟩) l.length l.length) ZX.out HBw.out HAT.out hW9
          clear z0 z1 z2 z3 f0 f1 f2 f3
          obtain ⟨⟨z0, z1, z2, z3⟩, -⟩ := box4c hr.box
          simp only [Tm.kind, Tm.num, Tm.name] at z0 z1 z2
          refine bodyPost_ret (v := .agg #[.int .i64 4, .int .i64 0, .string s, .slice (some ⟨w.heap.size + 2, 0, none⟩) l.length l.length]) (by simp [results, Try.results72, go_sem, z0, z1, z2, z3]; try rfl) rfl ?_
          have h9 := hr.at'
          refine ⟨some ⟨w.heap.size + 2, 0, none⟩, l.length, congrArg (fun n => Ending.returned (.agg #[.int .i64 4, .int .i64 0, .string s, .slice (some ⟨w.heap.size + 2, 0, none⟩) n l.length])) HQE.out, ?_, hr.bel⟩
          rw [← HQE.out]; exact h9
    · have hk4b : (t.kind == 4) = false := by simpa using hk4
      have hG : mapT σ t = t := by cases t <;> simp [Tm.kind] at hk hk4 <;> simp [mapT]
      rw [hG]
      have hlf : t.args = [] := Tm.args_kind hk4
      have HLF := Lib.hid hlf
      have he := h4 hk4
      simp only [Value.slice.injEq] at he
      obtain ⟨rfl, -, rfl⟩ := he
      have hl0 : t.args.length = 0 := by rw [hlf]; rfl
      unfold tmV
      clear ht hok hs hn hC h4 hk hk4 hc1 hc2 hG hlf al hF hS
      generalize hz : t.args.length = z at *
      subst hl0
      go_enter Try.func72, Try.ntmps72
      go_upto_region 1 with (fail)
      rw [← hV]
      clear hV hsV
      go_wp2
      refine post_gen7 fun W9 hW9 => ?_
      have hr := Res4.mk' (W9 := W9) (G := t) (a := .slice none 0 0) ZV.out BV.out (.leaf HLF.out) hW9
      clear z0 z1 z2 z3 f0 f1 f2 f3
      obtain ⟨⟨z0, z1, z2, z3⟩, -⟩ := box4c hr.box
      refine bodyPost_ret (v := .agg #[.int .i64 t.kind, .int .i64 t.num, .string t.name, .slice none 0 0]) (by simp [results, Try.results72, go_sem, z0, z1, z2, z3]; try rfl) rfl ?_
      have h9 := hr.at'
      exact ⟨none, 0, by rw [hz], by rw [hz]; exact h9, hr.bel⟩
theorem mapCopy_all (S : World → Prop) (σ : Nat → Tm) (hS : ∀ w W, S w → Below w.heap.size w W → S W)
    (hF : ∀ (n : Nat) (W : World), S W → Calls Try.prog 108 #[.agg #[.int .i64 1, .int .i64 n, .string ByteArray.empty, .slice none 0 0]] W (RetTm7 (σ n) W)) (t : Tm) : MapCopy S σ t := by
  induction t using Tm.ind with
  | h4 s l ih => exact fun va w ht hok hs hn => mapCopy_step S σ hS hF _ va w ht hok hs hn ih
  | _ => exact fun va w ht hok hs hn => mapCopy_step S σ hS hF _ va w ht hok hs hn (by simp [Tm.args])
end Go.Proofs.Ytmffobadnmkpbaa
namespace Go.Proofs.Ytmffobadnmkpbaa
open Go.RowKit

theorem res4g {w W W9 : World} {r : Nat} {x0 x1 x2 x3 : Value} (hr : w.heap.size ≤ r) (hx : BoxL W r [x0, x1, x2, x3]) (hb : Below w.heap.size w W) {G : Tm} {a : Value} (ht : TmAt (fun b => r < b) W G a)
    (h9 : W9 = ((((W.setCell ⟨r, 0, none⟩ (.int .i64 G.kind)).setCell ⟨r, 1, none⟩ (.int .i64 G.num)).setCell ⟨r, 2, none⟩ (.string G.name)).setCell ⟨r, 3, none⟩ a)) : BoxL W9 r [.int .i64 G.kind, .int .i64 G.num, .string G.name, a] ∧ TmAt (fun b => w.heap.size ≤ b) W9 G a ∧ Below w.heap.size w W9 := by
  subst h9
  exact ⟨box4set hx _ _ _ _, ht.mono fun b _ hp => ⟨by omega, heap_set4 _ _ _ _ _ _ (by omega)⟩, below4 hb (by omega) _ _ _ _⟩

set_option maxRecDepth 100000 in
set_option maxHeartbeats 1600000 in
theorem copied1_c (n : Nat) (w : World) : Calls Try.prog 108 #[.agg #[.int .i64 1, .int .i64 n, .string ByteArray.empty, .slice none 0 0]] w (RetTm7 (.var n) w) := by
  obtain ⟨V, hV⟩ : ∃ V, V = ((w.alloc (.cells #[.int .i64 1, .int .i64 n, .string ByteArray.empty, .slice none 0 0] 24)).alloc (.cells #[.int .i64 0, .int .i64 0, .string ⟨#[]⟩, .slice none 0 0] 24)) := ⟨_, rfl⟩
  have al : ∀ (W : World) (o : Obj) (B : Nat), B ≤ W.heap.size → Below B W (W.alloc o) := fun W o B h => (Below.refl B W).alloc h o
  have BV : Hid (Below w.heap.size w V) := by rw [hV]; exact (al _ _ _ (Nat.le_refl _)).trans (al _ _ _ (by simp))
  have hsV : V.heap.size = w.heap.size + 2 := by rw [hV]; simp
  have XV : Hid (BoxL V w.heap.size [.int .i64 1, .int .i64 n, .string ByteArray.empty, .slice none 0 0]) := by rw [hV]; exact (BoxL.mk' w #[.int .i64 1, .int .i64 n, .string ByteArray.empty, .slice none 0 0] 24).below (al _ _ (w.heap.size + 1) (by simp)) (by omega)
  have ZV : Hid (BoxL V (w.heap.size + 1) [.int .i64 0, .int .i64 0, .string ⟨#[]⟩, .slice none 0 0]) := by
    rw [hV]
    have h := BoxL.mk' (w.alloc (.cells #[.int .i64 1, .int .i64 n, .string ByteArray.empty, .slice none 0 0] 24)) #[.int .i64 0, .int .i64 0, .string ⟨#[]⟩, .slice none 0 0] 24
    simp only [World.size_alloc] at h
    exact h
  obtain ⟨⟨x0, x1, x2, x3⟩, _⟩ := box4c XV.out
  obtain ⟨⟨z0, z1, z2, z3⟩, f0, f1, f2, f3⟩ := box4c ZV.out
  clear al
  go_enter Try.func108, Try.ntmps108
  go_upto_region 1 with (fail)
  rw [← hV]
  clear hV hsV
  go_wp2
  refine post_gen7 fun W9 hW9 => ?_
  have hr := Res4.mk' (W9 := W9) (G := .var n) (a := .slice none 0 0) ZV.out BV.out (.leaf rfl) hW9
  clear z0 z1 z2 z3 f0 f1 f2 f3
  obtain ⟨⟨z0, z1, z2, z3⟩, -⟩ := box4c hr.box
  simp only [Tm.kind, Tm.num, Tm.name] at z0 z1 z2
  refine bodyPost_ret (v := .agg #[.int .i64 1, .int .i64 n, .string ByteArray.empty, .slice none 0 0]) (by simp [results, Try.results108, go_sem, z0, z1, z2, z3]; try rfl) rfl ?_
  exact ⟨none, 0, rfl, hr.at', hr.bel⟩
set_option maxRecDepth 100000 in
set_option maxHeartbeats 1600000 in
theorem copied_c (t : Tm) (va : Value) (w : World) (ht : TmAt (fun _ => True) w t va) (hok : t.ok) (hn : t.size ≤ 1000000) : Calls Try.prog 74 #[tmV t va] w (RetTm7 t w) := by
  obtain ⟨ao, cc, rfl, hc1, hc2⟩ := ht.shape
  have CM : Hid (∀ W, Below w.heap.size w W → Calls Try.prog 72 #[.agg #[.int .i64 t.kind, .int .i64 t.num, .string t.name, .slice ao t.args.length cc], .func (.func 108) #[] #[]] W fun e w' => ∃ pa qa, e = .returned (.agg #[.int .i64 t.kind, .int .i64 t.num, .string t.name, .slice pa t.args.length qa]) ∧ TmAt (fun b => W.heap.size ≤ b) w' t (.slice pa t.args.length qa) ∧ Below W.heap.size W w') := fun W h => by
    have h := mapCopy_all (fun _ => True) .var (fun _ _ _ _ => trivial) (fun n W _ => copied1_c n W) t _ W (ht.later h) hok trivial hn
    rw [mapT_id] at h
    exact h
  obtain ⟨V, hV⟩ : ∃ V, V = ((w.alloc (.cells #[.int .i64 t.kind, .int .i64 t.num, .string t.name, .slice ao t.args.length cc] 24)).alloc (.cells #[.int .i64 0, .int .i64 0, .string ⟨#[]⟩, .slice none 0 0] 24)) := ⟨_, rfl⟩
  have al : ∀ (W : World) (o : Obj) (B : Nat), B ≤ W.heap.size → Below B W (W.alloc o) := fun W o B h => (Below.refl B W).alloc h o
  have BV : Hid (Below w.heap.size w V) := by rw [hV]; exact (al _ _ _ (Nat.le_refl _)).trans (al _ _ _ (by simp))
  have hsV : V.heap.size = w.heap.size + 2 := by rw [hV]; simp
  have XV : Hid (BoxL V w.heap.size [.int .i64 t.kind, .int .i64 t.num, .string t.name, .slice ao t.args.length cc]) := by rw [hV]; exact (BoxL.mk' w #[.int .i64 t.kind, .int .i64 t.num, .string t.name, .slice ao t.args.length cc] 24).below (al _ _ (w.heap.size + 1) (by simp)) (by omega)
  have ZV : Hid (BoxL V (w.heap.size + 1) [.int .i64 0, .int .i64 0, .string ⟨#[]⟩, .slice none 0 0]) := by
    rw [hV]
    have h := BoxL.mk' (w.alloc (.cells #[.int .i64 t.kind, .int .i64 t.num, .string t.name, .slice ao t.args.length cc] 24)) #[.int .i64 0, .int .i64 0, .string ⟨#[]⟩, .slice none 0 0] 24
    simp only [World.size_alloc] at h
    exact h
  have HS := Lib.hid hsV
  obtain ⟨⟨x0, x1, x2, x3⟩, _⟩ := box4c XV.out
  unfold tmV
  clear al ht hok hn hc1 hc2
  go_enter Try.func74, Try.ntmps74
  go_upto_region 1 with (fail)
  rw [← hV]
  clear hV hsV
  go_wp2_with (first | (go_at_call 72; ((with_reducible refine (CM.out _ BV.out).mono ?_); rintro e W2 ⟨pa, qa, rfl, tg, bb⟩; have Z2 := Lib.hid (ZV.out.block (bb.block _ (by have := HS.out; omega))); have B2 := Lib.hid (BV.out.trans (bb.mono BV.out.size)); have TG := Lib.hid tg; obtain ⟨⟨z0, z1, z2, z3⟩, f0, f1, f2, f3⟩ := box4c Z2.out; clear bb tg)))
  refine post_gen7 fun W9 hW9 => ?_
  have hr := Res4.mk' (W9 := W9) (G := t) (a := .slice pa t.args.length qa) Z2.out B2.out (TG.out.mono fun b _ hp => ⟨by have := HS.out; omega, rfl⟩) hW9
  clear z0 z1 z2 z3 f0 f1 f2 f3
  obtain ⟨⟨z0, z1, z2, z3⟩, -⟩ := box4c hr.box
  refine bodyPost_ret (v := .agg #[.int .i64 t.kind, .int .i64 t.num, .string t.name, .slice pa t.args.length qa]) (by simp [results, Try.results74, go_sem, z0, z1, z2, z3]; try rfl) rfl ?_
  exact ⟨pa, qa, rfl, hr.at', hr.bel⟩
end Go.Proofs.Ytmffobadnmkpbaa
