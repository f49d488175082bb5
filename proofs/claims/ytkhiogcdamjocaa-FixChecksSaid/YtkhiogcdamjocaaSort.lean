/-
  slices.SortFunc AT AN OWN ROW OF RANGES.
-/
import Derived.Test.YtkhiogcdamjocaaRg
import Derived.Test.YtkhiogcdamjocaaLay
import Derived.Sort.OwnSorted
import Derived.Sort.Grow
namespace Go.Proofs.Ytkhiogcdamjocaa
open Go.RowKit Go.Sort Go.Lib

def encR (x : Rg) : List Value := [.int .i64 x.1, .int .i64 x.2]
theorem flat_cells (d : Array Rg) : (flatK encR 2 d).toList = cellsR d.toList := by
  apply List.ext_getElem?
  intro t
  by_cases ht : t < d.size * 2
  · have h1 : (flatK encR 2 d)[t]! = (encR d[t / 2]!)[t % 2]! := get_flatK encR 2 d t ht
    have h2 : (flatK encR 2 d)[t]? = some (flatK encR 2 d)[t]! := by rw [getElem?_pos _ t (by simpa using ht), getElem!_pos _ t (by simpa using ht)]
    rw [Array.getElem?_toList, h2, h1]
    have hd : t / 2 < d.toList.length := by simp; omega
    obtain ⟨a, b⟩ := cellsR_at d.toList (t / 2) hd
    have e : d[t / 2]! = d.toList[t / 2] := by rw [getElem!_pos d (t / 2) (by simpa using hd)]; simp
    rw [e]
    rcases (show t % 2 = 0 ∨ t % 2 = 1 by omega) with h | h
    · rw [show (cellsR d.toList)[t]? = (cellsR d.toList)[t / 2 * 2]? by congr 1; omega, a, h]; rfl
    · rw [show (cellsR d.toList)[t]? = (cellsR d.toList)[t / 2 * 2 + 1]? by congr 1; omega, b, h]; rfl
  · rw [List.getElem?_eq_none (by simp; omega), List.getElem?_eq_none (by rw [cellsR_length]; simp; omega)]

theorem holdsK_of_own {w : World} {g : Nat} {cur : Array Value} {e : TypeId} {rs : List Rg} (hb : w.heap[g]? = some (.cells cur e (0, 0))) (ht : cur.toList.take (rs.length * 2) = cellsR rs) : HoldsK encR 2 w g 0 rs.toArray := by
  intro j hj
  have hj' : j < rs.length * 2 := by simpa using hj
  refine ⟨?_, by simp [World.frozen?, hb]⟩
  have h1 : (cur.toList.take (rs.length * 2))[j]? = (flatK encR 2 rs.toArray).toList[j]? := by rw [ht, flat_cells]
  rw [List.getElem?_take_of_lt hj'] at h1
  simp only [World.cell?, hb, Nat.zero_add, Option.isSome_none, Bool.false_eq_true, if_false, id]
  rw [← Array.getElem?_toList, h1, Array.getElem?_toList, getElem?_pos _ j hj, getElem!_pos _ j hj]

theorem heap_sortedK {w : World} {g n : Nat} {os : Array Obj} {cur : Array Value} {e : TypeId} {fr : Nat × Nat} (d : Array Rg) (hb : w.heap[g]? = some (.cells cur e fr)) :
    (sortWorldK encR 2 w g 0 n d os).heap[g]? = some (.cells (putCells id 0 (flatK encR 2 d) cur) e fr) := by
  have hg : g < w.heap.size := (Array.getElem?_eq_some_iff.1 hb).1
  unfold sortWorldK putRowK
  rw [heap_grow_old _ _ (by simpa using hg)]
  simp [putRow, mapBlock, Sort.ahead, Array.getElem?_modify, hb, onCells]
theorem grownBy_sortedK {w : World} {g n : Nat} {os : Array Obj} (d : Array Rg) : w.grownBy (sortWorldK encR 2 w g 0 n d os) (some g) := by
  refine ⟨rfl, rfl, rfl, by simp [sortWorldK, putRowK], fun k hk hne => ?_⟩
  unfold sortWorldK putRowK
  rw [heap_grow_old _ _ (by simpa using hk)]
  have : g ≠ k := fun e => hne (by rw [e])
  simp [putRow, mapBlock, Sort.ahead, Array.getElem?_modify, this]
theorem take_putCellsK (cur : Array Value) (d : Array Rg) (h : d.size * 2 ≤ cur.size) : (putCells id 0 (flatK encR 2 d) cur).toList.take (d.size * 2) = cellsR d.toList := by
  rw [← flat_cells]
  apply List.ext_getElem?
  intro j
  by_cases hj : j < d.size * 2
  · rw [List.getElem?_take_of_lt hj, Array.getElem?_toList, Array.getElem?_toList, getElem?_pos (flatK encR 2 d) j (by simpa using hj)]
    simp [putCells, hj, show j < cur.size by omega]
  · rw [List.getElem?_take_eq_none (by omega), List.getElem?_eq_none (by simp; omega)]

theorem Try.closure (x y : Rg) (W : World) : Calls Try.prog 66 #[.agg #[.int .i64 x.1, .int .i64 x.2], .agg #[.int .i64 y.1, .int .i64 y.2]] W fun e w' => e = .returned (.int .i64 (Lib.compareInt x.1 y.1)) ∧ ∃ q os', w' = grow (W.drewN q) os' := by
  have hcon := fun W' => AnyG.cmp_Compare_int Try.cmpInt x.1 y.1 W'
  change ∀ W', Calls Try.prog 67 _ _ _ at hcon
  generalize Lib.compareInt x.1 y.1 = r at hcon ⊢
  go_enter Try.func66, Try.ntmps66
  go_wp2_with (go_at_call 67; refine (hcon _).mono ?_; rintro e w' ⟨rfl, rfl⟩)
  go_ret
  exact ⟨rfl, 0, _, by rw [alloc_eq_grow, alloc_eq_grow, grow_grow]; rfl⟩
theorem Try.cmpLays (blk off size : Nat) (w : World) : CmpLays Try.prog 66 #[] encR 2 (fun x y => Lib.compareInt x.1 y.1) blk off size w :=
  fun _ _ _ _ x y => Try.closure x y _
theorem ltLo (x y : Rg) : ltOf (fun x y : Rg => Lib.compareInt x.1 y.1) x y = decide (x.1 < y.1) := by
  unfold ltOf Lib.compareInt
  by_cases h1 : x.1 < y.1
  · simp [h1]
  · by_cases h2 : y.1 < x.1 <;> simp [h1, h2]
theorem swoLo : SWO (ltOf fun x y : Rg => Lib.compareInt x.1 y.1) where
  irrefl x := by rw [ltLo]; simp
  trans x y z h1 h2 := by rw [ltLo] at *; simp at *; omega
  ntrans x y z h1 h2 := by rw [ltLo] at *; simp at *; omega

/-- slices.SortFunc by the lower ends, of an own row: the same row owns a list with the same ranges that rises -/
theorem sort_own (v : Value) (rs : List Rg) (w : World) (base : Nat) (hown : w.ownsRow base 84 2 v rs.length (cellsR rs)) (hbase : base ≤ w.heap.size) (hp : 0 < rs.length) (hl : rs.length ≤ 4096) :
    Calls Try.prog 65 #[v, .func (.func 66) #[] #[]] w fun e w' => e = .returned (.tuple #[]) ∧
      ∃ l : List Rg, l.length = rs.length ∧ (∀ r, r ∈ l ↔ r ∈ rs) ∧ l.Pairwise (fun a b => a.1 ≤ b.1) ∧ w'.ownsRow base 84 2 v l.length (cellsR l) ∧ Below base w w' ∧ w.grownBy w' v.ownBlock := by
  have hge := ownBlock_ge hown
  rcases hown.2 with ⟨_, h0⟩ | ⟨g, cap, cur, rfl, hbg, hb, h1, h2, h3, h4⟩
  · omega
  have eg : ∀ args w, (callFunc 66 args).run Try.prog w = .ok (.enter 66 args) w := enters_of Try.func66 (by kernel_rfl) rfl
  have hcon := AnyQ.slices_SortFunc Try.sortRg 2 Try.isAgg84 Try.sizeOf84 encR (fun _ => rfl) (fun x v hv => by simp [encR] at hv; rcases hv with rfl | rfl <;> rfl) (fun x y => Lib.compareInt x.1 y.1) swoLo
    66 #[] g 0 cap rs.toArray w eg (Try.cmpLays g 0 _ w) (holdsK_of_own hb h4) (Array.getElem?_eq_some_iff.1 hb).1 (by simp; omega)
  change Calls Try.prog 65 _ _ _ at hcon
  rw [List.size_toArray] at hcon
  refine hcon.mono ?_
  rintro e w' ⟨rfl, d', n, os, hperm, hsort, rfl⟩
  obtain ⟨hs1, _, hs2⟩ := hperm
  simp only [List.size_toArray] at hs1 hs2 hsort
  have hmem : ∀ r, r ∈ d'.toList ↔ r ∈ rs := fun r => by
    have := hs2.mem_iff (a := r)
    rw [Array.extract_eq_self_of_le (by omega), Array.extract_eq_self_of_le (by simp)] at this
    simpa using this
  have hl' : d'.toList.length = rs.length := by simpa using hs1
  have hgb := grownBy_sortedK (w := w) (g := g) (n := n) (os := os) d'
  refine ⟨rfl, d'.toList, hl', hmem, ?_, ?_, ?_, hgb⟩
  · rw [List.pairwise_iff_getElem]
    intro i j hi hj hij
    have := hsort i j (by omega) hij (by omega)
    rw [ltLo] at this
    have e1 : d'[i]! = d'.toList[i] := by rw [getElem!_pos d' i (by simpa using hi)]; simp
    have e2 : d'[j]! = d'.toList[j] := by rw [getElem!_pos d' j (by simpa using hj)]; simp
    rw [e1, e2] at this
    simpa using this
  · rw [hl']
    refine ⟨by rw [cellsR_length, hl'], .inr ⟨g, cap, _, rfl, hbg, heap_sortedK _ hb, h1, h2, by simp [putCells, h3], ?_⟩⟩
    rw [← hs1]; exact take_putCellsK cur d' (by omega)
  · exact (Below.refl base w).grown hgb hbase hge
end Go.Proofs.Ytkhiogcdamjocaa
