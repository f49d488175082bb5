/-
  LAYINGS of library functions at this dump, in plain words (printed by the kit's own commands).
  slices.SortFunc AT AN OWN ROW OF RANGES.
  dom.Norm, walked.
  dom.Compl, dom.Size, dom.Ends, dom.At; coneylaw14.many, coneylaw14.same, walked.
  LAYINGS of library functions at this dump, in plain words (printed by the kit's own commands).
  dom.Join (slices.Concat, slices.Grow), dom.Has (slices.ContainsFunc), walked.
-/
import Derived.Shelf.SlSortCmp.WholeK
import Derived.Shelf.SlicesG.Cmp
import Derived.Test.YtmffobadnmkpbaaRows
import Derived.Test.YtmffobadnmkpbaaKdom1
import Derived.Sort.OwnSorted
import Derived.Sort.Grow
import Derived.Shelf.SlSortCmp.NoneTotal
import Derived.BigQuiet
import Derived.BigRegion
import Derived.Shelf.Spec.SlicesGrow
import Derived.Shelf.SlicesQ.IndexFunc
namespace Go.Proofs.Ytmffobadnmkpbaa
open Go.Shelf
def Try.sortRg_ren : Go.Shelf.Ren := ⟨fun | 6 => 118 | 15 => 113 | 14 => 148 | 28 => 144 | 29 => 145 | 20 => 166 | 21 => 167 | 22 => 168 | 23 => 169 | 24 => 170 | 25 => 171 | 26 => 172 | 27 => 173 | 46 => 180 | 47 => 162 | 48 => 163 | 49 => 181 | 50 => 182 | 57 => 184 | n => n, fun | 22 => 61 | 24 => 107 | 25 => 137 | 3 => 3 | 39 => 131 | 0 => 0 | 53 => 159 | 55 => 161 | 4 => 4 | 46 => 153 | 45 => 152 | 50 => 117 | 5 => 5 | 9 => 9 | 66 => 173 | 70 => 177 | 76 => 191 | 77 => 192 | n => n, fun | n => n⟩
theorem Try.sortRg : Go.Proofs.SlLaysF0.n6 Try.prog Try.sortRg_ren := {
  mixed := by kernel_rfl
  f6 := ⟨Try.f118.name, by decide, Try.func118.trans (congrArg some (by kernel_rfl))⟩
  f14 := ⟨Try.f148.name, by decide, Try.func148.trans (congrArg some (by kernel_rfl))⟩
  f15 := Try.func113.trans (congrArg some (by kernel_rfl))
  f20 := ⟨Try.f166.name, by decide, Try.func166.trans (congrArg some (by kernel_rfl))⟩
  f21 := ⟨Try.f167.name, by decide, Try.func167.trans (congrArg some (by kernel_rfl))⟩
  f22 := ⟨Try.f168.name, by decide, Try.func168.trans (congrArg some (by kernel_rfl))⟩
  f23 := ⟨Try.f169.name, by decide, Try.func169.trans (congrArg some (by kernel_rfl))⟩
  f24 := ⟨Try.f170.name, by decide, Try.func170.trans (congrArg some (by kernel_rfl))⟩
  f25 := ⟨Try.f171.name, by decide, Try.func171.trans (congrArg some (by kernel_rfl))⟩
  f26 := ⟨Try.f172.name, by decide, Try.func172.trans (congrArg some (by kernel_rfl))⟩
  f27 := ⟨Try.f173.name, by decide, Try.func173.trans (congrArg some (by kernel_rfl))⟩
  f28 := Try.func144.trans (congrArg some (by kernel_rfl))
  f29 := Try.func145.trans (congrArg some (by kernel_rfl))
  f46 := ⟨Try.f180.name, by decide, Try.func180.trans (congrArg some (by kernel_rfl))⟩
  f47 := Try.func162.trans (congrArg some (by kernel_rfl))
  f48 := Try.func163.trans (congrArg some (by kernel_rfl))
  f49 := ⟨Try.f181.name, by decide, Try.func181.trans (congrArg some (by kernel_rfl))⟩
  f50 := ⟨Try.f182.name, by decide, Try.func182.trans (congrArg some (by kernel_rfl))⟩
  f57 := ⟨Try.f184.name, by decide, Try.func184.trans (congrArg some (by kernel_rfl))⟩
  t0 := Try.underlying0
  a0 := Try.isAgg0
  z0 := Try.sizeOf0
  v0 := Try.zeroValue0
  t3 := Try.underlying3
  a3 := Try.isAgg3
  z3 := Try.sizeOf3
  v3 := Try.zeroValue3
  t4 := Try.underlying4
  a4 := Try.isAgg4
  z4 := Try.sizeOf4
  v4 := Try.zeroValue4
  t5 := Try.underlying5
  a5 := Try.isAgg5
  z5 := Try.sizeOf5
  v5 := Try.zeroValue5
  t9 := Try.underlying9
  a9 := Try.isAgg9
  z9 := Try.sizeOf9
  v9 := Try.zeroValue9
  t22 := Try.underlying61
  a22 := Try.isAgg61
  z22 := Try.sizeOf61
  v22 := Try.zeroValue61
  t25 := Try.underlying137
  a25 := Try.isAgg137
  z25 := Try.sizeOf137
  v25 := Try.zeroValue137
  t39 := Try.underlying131
  a39 := Try.isAgg131
  z39 := Try.sizeOf131
  v39 := Try.zeroValue131
  t45 := Try.underlying152
  a45 := Try.isAgg152
  z45 := Try.sizeOf152
  v45 := Try.zeroValue152
  t46 := Try.underlying153
  a46 := Try.isAgg153
  z46 := Try.sizeOf153
  v46 := Try.zeroValue153
  t50 := Try.underlying117
  a50 := Try.isAgg117
  z50 := Try.sizeOf117
  v50 := Try.zeroValue117
  t53 := Try.underlying159
  a53 := Try.isAgg159
  z53 := Try.sizeOf159
  v53 := Try.zeroValue159
  t55 := Try.underlying161
  a55 := Try.isAgg161
  z55 := Try.sizeOf161
  v55 := Try.zeroValue161
  t66 := Try.underlying173
  a66 := Try.isAgg173
  z66 := Try.sizeOf173
  v66 := Try.zeroValue173
  t70 := Try.underlying177
  a70 := Try.isAgg177
  z70 := Try.sizeOf177
  v70 := Try.zeroValue177
  t76 := Try.underlying191
  a76 := Try.isAgg191
  z76 := Try.sizeOf191
  v76 := Try.zeroValue191
  t77 := Try.underlying192
  a77 := Try.isAgg192
  z77 := Try.sizeOf192
  v77 := Try.zeroValue192 }
def Try.cmpInt_ren : Go.Shelf.Ren := ⟨fun | 5 => 66 | 7 => 106 | n => n, fun | 22 => 3 | 3 => 3 | 4 => 4 | n => n, fun | n => n⟩
theorem Try.cmpInt : Go.Proofs.SlLaysC2.n5 Try.prog Try.cmpInt_ren := {
  mixed := by kernel_rfl
  f5 := ⟨Try.f66.name, by decide, Try.func66.trans (congrArg some (by kernel_rfl))⟩
  f7 := ⟨Try.f106.name, by decide, Try.func106.trans (congrArg some (by kernel_rfl))⟩
  t3 := Try.underlying3
  a3 := Try.isAgg3
  z3 := Try.sizeOf3
  v3 := Try.zeroValue3
  t4 := Try.underlying4
  a4 := Try.isAgg4
  z4 := Try.sizeOf4
  v4 := Try.zeroValue4
  t22 := Try.underlying3
  a22 := Try.isAgg3
  z22 := Try.sizeOf3
  v22 := Try.zeroValue3 }

end Go.Proofs.Ytmffobadnmkpbaa
namespace Go.Proofs.Ytmffobadnmkpbaa
open Go.RowKit Go.Sort Go.Lib

def encR (x : Rg) : List Value := [.int .i64 x.1, .int .i64 x.2]
theorem flat_cells (d : Array Rg) : (flatK encR 2 d).toList = cellsR d.toList := by
  apply List.ext_getElem?
  intro t
  by_cases ht : t < d.size * 2
  · have h1 : (flatK encR 2 d)[t]! = (encR d[t / 2]!)[t % 2]! := get_flatK encR 2 d t ht
    have h2 : (flatK encR 2 d)[t]? = some (flatK encR 2 d)[t]! := by rw [getElem?_pos _ t (by simpa using ht), getElem!_pos _ t (by simpa using ht)]
    rw [Array.getElem?_toList, h2, h1]
    have hd : t / 2 < d.toList.length := by simp; omega
    obtain ⟨a, b⟩ := cellsR_at d.toList (t / 2) hd
    have e : d[t / 2]! = d.toList[t / 2] := by rw [getElem!_pos d (t / 2) (by simpa using hd)]; simp
    rw [e]
    rcases (show t % 2 = 0 ∨ t % 2 = 1 by omega) with h | h
    · rw [show (cellsR d.toList)[t]? = (cellsR d.toList)[t / 2 * 2]? by congr 1; omega, a, h]; rfl
    · rw [show (cellsR d.toList)[t]? = (cellsR d.toList)[t / 2 * 2 + 1]? by congr 1; omega, b, h]; rfl
  · rw [List.getElem?_eq_none (by simp; omega), List.getElem?_eq_none (by rw [cellsR_length]; simp; omega)]

theorem holdsK_of_own {w : World} {g : Nat} {cur : Array Value} {e : TypeId} {rs : List Rg} (hb : w.heap[g]? = some (.cells cur e (0, 0))) (ht : cur.toList.take (rs.length * 2) = cellsR rs) : HoldsK encR 2 w g 0 rs.toArray := by
  intro j hj
  have hj' : j < rs.length * 2 := by simpa using hj
  refine ⟨?_, by simp [World.frozen?, hb]⟩
  have h1 : (cur.toList.take (rs.length * 2))[j]? = (flatK encR 2 rs.toArray).toList[j]? := by rw [ht, flat_cells]
  rw [List.getElem?_take_of_lt hj'] at h1
  simp only [World.cell?, hb, Nat.zero_add, Option.isSome_none, Bool.false_eq_true, if_false, id]
  rw [← Array.getElem?_toList, h1, Array.getElem?_toList, getElem?_pos _ j hj, getElem!_pos _ j hj]

theorem heap_sortedK {w : World} {g n : Nat} {os : Array Obj} {cur : Array Value} {e : TypeId} {fr : Nat × Nat} (d : Array Rg) (hb : w.heap[g]? = some (.cells cur e fr)) :
    (sortWorldK encR 2 w g 0 n d os).heap[g]? = some (.cells (putCells id 0 (flatK encR 2 d) cur) e fr) := by
  have hg : g < w.heap.size := (Array.getElem?_eq_some_iff.1 hb).1
  unfold sortWorldK putRowK
  rw [heap_grow_old _ _ (by simpa using hg)]
  simp [putRow, mapBlock, Sort.ahead, Array.getElem?_modify, hb, onCells]
theorem grownBy_sortedK {w : World} {g n : Nat} {os : Array Obj} (d : Array Rg) : w.grownBy (sortWorldK encR 2 w g 0 n d os) (some g) := by
  refine ⟨rfl, rfl, rfl, by simp [sortWorldK, putRowK], fun k hk hne => ?_⟩
  unfold sortWorldK putRowK
  rw [heap_grow_old _ _ (by simpa using hk)]
  have : g ≠ k := fun e => hne (by rw [e])
  simp [putRow, mapBlock, Sort.ahead, Array.getElem?_modify, this]
theorem take_putCellsK (cur : Array Value) (d : Array Rg) (h : d.size * 2 ≤ cur.size) : (putCells id 0 (flatK encR 2 d) cur).toList.take (d.size * 2) = cellsR d.toList := by
  rw [← flat_cells]
  apply List.ext_getElem?
  intro j
  by_cases hj : j < d.size * 2
  · rw [List.getElem?_take_of_lt hj, Array.getElem?_toList, Array.getElem?_toList, getElem?_pos (flatK encR 2 d) j (by simpa using hj)]
    simp [putCells, hj, show j < cur.size by omega]
  · rw [List.getElem?_take_eq_none (by omega), List.getElem?_eq_none (by simp; omega)]

theorem Try.closure (x y : Rg) (W : World) : Calls Try.prog 119 #[.agg #[.int .i64 x.1, .int .i64 x.2], .agg #[.int .i64 y.1, .int .i64 y.2]] W fun e w' => e = .returned (.int .i64 (Lib.compareInt x.1 y.1)) ∧ ∃ q os', w' = grow (W.drewN q) os' := by
  have hcon := fun W' => AnyG.cmp_Compare_int Try.cmpInt x.1 y.1 W'
  change ∀ W', Calls Try.prog 66 _ _ _ at hcon
  generalize Lib.compareInt x.1 y.1 = r at hcon ⊢
  go_enter Try.func119, Try.ntmps119
  go_wp2_with (go_at_call 66; refine (hcon _).mono ?_; rintro e w' ⟨rfl, rfl⟩)
  go_ret
  exact ⟨rfl, 0, _, by rw [alloc_eq_grow, alloc_eq_grow, grow_grow]; rfl⟩
theorem Try.cmpLays (blk off size : Nat) (w : World) : CmpLays Try.prog 119 #[] encR 2 (fun x y => Lib.compareInt x.1 y.1) blk off size w :=
  fun _ _ _ _ x y => Try.closure x y _
theorem ltLo (x y : Rg) : ltOf (fun x y : Rg => Lib.compareInt x.1 y.1) x y = decide (x.1 < y.1) := by
  unfold ltOf Lib.compareInt
  by_cases h1 : x.1 < y.1
  · simp [h1]
  · by_cases h2 : y.1 < x.1 <;> simp [h1, h2]
theorem swoLo : SWO (ltOf fun x y : Rg => Lib.compareInt x.1 y.1) where
  irrefl x := by rw [ltLo]; simp
  trans x y z h1 h2 := by rw [ltLo] at *; simp at *; omega
  ntrans x y z h1 h2 := by rw [ltLo] at *; simp at *; omega

/-- slices.SortFunc by the lower ends, of an own row: the same row owns a list with the same ranges that rises -/
theorem sort_own (v : Value) (rs : List Rg) (w : World) (base : Nat) (hown : w.ownsRow base 107 2 v rs.length (cellsR rs)) (hbase : base ≤ w.heap.size) (hp : 0 < rs.length) (hl : rs.length ≤ 4096) :
    Calls Try.prog 118 #[v, .func (.func 119) #[] #[]] w fun e w' => e = .returned (.tuple #[]) ∧
      ∃ l : List Rg, l.length = rs.length ∧ (∀ r, r ∈ l ↔ r ∈ rs) ∧ l.Pairwise (fun a b => a.1 ≤ b.1) ∧ w'.ownsRow base 107 2 v l.length (cellsR l) ∧ Below base w w' ∧ w.grownBy w' v.ownBlock := by
  have hge := ownBlock_ge hown
  rcases hown.2 with ⟨_, h0⟩ | ⟨g, cap, cur, rfl, hbg, hb, h1, h2, h3, h4⟩
  · omega
  have eg : ∀ args w, (callFunc 119 args).run Try.prog w = .ok (.enter 119 args) w := enters_of Try.func119 (by kernel_rfl) rfl
  have hcon := AnyQ.slices_SortFunc Try.sortRg 2 Try.isAgg107 Try.sizeOf107 encR (fun _ => rfl) (fun x v hv => by simp [encR] at hv; rcases hv with rfl | rfl <;> rfl) (fun x y => Lib.compareInt x.1 y.1) swoLo
    119 #[] g 0 cap rs.toArray w eg (Try.cmpLays g 0 _ w) (holdsK_of_own hb h4) (Array.getElem?_eq_some_iff.1 hb).1 (by simp; omega)
  change Calls Try.prog 118 _ _ _ at hcon
  rw [List.size_toArray] at hcon
  refine hcon.mono ?_
  rintro e w' ⟨rfl, d', n, os, hperm, hsort, rfl⟩
  obtain ⟨hs1, _, hs2⟩ := hperm
  simp only [List.size_toArray] at hs1 hs2 hsort
  have hmem : ∀ r, r ∈ d'.toList ↔ r ∈ rs := fun r => by
    have := hs2.mem_iff (a := r)
    rw [Array.extract_eq_self_of_le (by omega), Array.extract_eq_self_of_le (by simp)] at this
    simpa using this
  have hl' : d'.toList.length = rs.length := by simpa using hs1
  have hgb := grownBy_sortedK (w := w) (g := g) (n := n) (os := os) d'
  refine ⟨rfl, d'.toList, hl', hmem, ?_, ?_, ?_, hgb⟩
  · rw [List.pairwise_iff_getElem]
    intro i j hi hj hij
    have := hsort i j (by omega) hij (by omega)
    rw [ltLo] at this
    have e1 : d'[i]! = d'.toList[i] := by rw [getElem!_pos d' i (by simpa using hi)]; simp
    have e2 : d'[j]! = d'.toList[j] := by rw [getElem!_pos d' j (by simpa using hj)]; simp
    rw [e1, e2] at this
    simpa using this
  · rw [hl']
    refine ⟨by rw [cellsR_length, hl'], .inr ⟨g, cap, _, rfl, hbg, heap_sortedK _ hb, h1, h2, by simp [putCells, h3], ?_⟩⟩
    rw [← hs1]; exact take_putCellsK cur d' (by omega)
  · exact (Below.refl base w).grown hgb hbase hge
end Go.Proofs.Ytmffobadnmkpbaa
namespace Go.Proofs.Ytmffobadnmkpbaa
open Go.RowKit

theorem cellsR_last (M : List Rg) (p : Rg) (u : Int) : (cellsR (M ++ [p])).set (M.length * 2 + 1) (.int .i64 u) = cellsR (M ++ [(p.1, u)]) := by
  rw [cellsR_append, cellsR_append, List.set_append_right _ _ (by rw [cellsR_length]; omega), cellsR_length, show M.length * 2 + 1 - M.length * 2 = 1 by omega]
  rfl
theorem mergeL_bounds (l : List Rg) (hok : ∀ r ∈ l, -200 ≤ r.1 ∧ r.1 ≤ r.2 ∧ r.2 ≤ 200) (hs : l.Pairwise fun a b => a.1 ≤ b.1) (k : Nat) : ∀ p ∈ mergeL (l.take k), -200 ≤ p.2 ∧ p.2 ≤ 200 := by
  obtain ⟨a, _⟩ := mergeL_ok (l.take k) (fun r hr => hok r (List.mem_of_mem_take hr)) (hs.sublist (List.take_sublist _ _))
  have : ∀ {L : List Rg} {lo : Int}, NormFrom lo L → ∀ p ∈ L, lo ≤ p.2 ∧ p.2 ≤ 200 := by
    intro L
    induction L with
    | nil => intro lo _ p hp; simp at hp
    | cons r L ih =>
      rintro lo ⟨h1, h2, h3, h4⟩ p hp
      rcases List.mem_cons.1 hp with rfl | hp
      · omega
      · have := ih h4 p hp; omega
  exact this a

theorem Try.ownsRow_drewN {w : World} {base : Nat} {e : TypeId} {size : Nat} {v : Value} {n : Nat} {xs : List Value} (h : w.ownsRow base e size v n xs) (q : Nat) : (w.drewN q).ownsRow base e size v n xs := h
/-- slices.SortFunc of no element -/
theorem sort_none (p : Option Addr) (cap : Nat) (w : World) :
    Calls Try.prog 118 #[.slice p 0 cap, .func (.func 119) #[] #[]] w fun e w' => e = .returned (.tuple #[]) ∧ w' = w :=
  AnyF.slices_SortFunc_none Try.sortRg p cap (.func (.func 119) #[] #[]) w
theorem sort_all (v : Value) (rs : List Rg) (w : World) (base : Nat) (hown : w.ownsRow base 107 2 v rs.length (cellsR rs)) (hbase : base ≤ w.heap.size) (hl : rs.length ≤ 4096) :
    Calls Try.prog 118 #[v, .func (.func 119) #[] #[]] w fun e w' => e = .returned (.tuple #[]) ∧
      ∃ l : List Rg, l.length = rs.length ∧ (∀ r, r ∈ l ↔ r ∈ rs) ∧ l.Pairwise (fun a b => a.1 ≤ b.1) ∧ w'.ownsRow base 107 2 v l.length (cellsR l) ∧ Below base w w' := by
  rcases Nat.eq_zero_or_pos rs.length with h0 | h0
  · obtain rfl := List.eq_nil_of_length_eq_zero h0
    obtain ⟨ao, cap, rfl, _⟩ := (SlAt.of_own hown).shape
    exact (sort_none ao cap w).mono fun e w' ⟨he, hw⟩ => by subst hw; exact ⟨he, [], rfl, fun r => Iff.rfl, List.Pairwise.nil, hown, Below.refl _ _⟩
  · exact (sort_own v rs w base hown hbase h0 hl).mono fun e w' ⟨he, l, h1, h2, h3, h4, h5, _⟩ => ⟨he, l, h1, h2, h3, h4, h5⟩

theorem own_ge {w : World} {B e size n : Nat} {v : Value} {xs : List Value} (h : w.ownsRow B e size v n xs) {b : Nat} (hb : v.ownBlock = some b) : B ≤ b := by
  rcases h.2 with ⟨rfl, _⟩ | ⟨g, cap, cur, rfl, hg, hgg, rest⟩
  · simp [Value.ownBlock] at hb
  · simp [Value.ownBlock] at hb
    subst hb
    exact hg
set_option maxRecDepth 100000 in
set_option maxHeartbeats 800000 in
theorem norm_any (v : Value) (rs : List Rg) (w : World) (h : RgAt w v rs) (hl : rs.length ≤ 4096) :
    Calls Try.prog 90 #[v] w fun e w' => ∃ v', e = .returned v' ∧ RgAt w' v' (norm rs) ∧ Below w.heap.size w w' ∧ ∀ b, v'.ownBlock = some b → w.heap.size ≤ b := by
  obtain ⟨i0, hi, hz0, hz1, hz2⟩ := info_parts Try.infoRg
  obtain ⟨ao, cap, rfl, _⟩ := h.shape
  have H := Lib.hid h
  clear h
  go_enter Try.func90, Try.ntmps90
  go_wp2
  go_loopw [3, 12] (fun o s wr => ∃ k : Nat, k ≤ rs.length ∧ s = .int .i64 k ∧ wr.ownsRow w.heap.size 107 2 o (clampL (rs.take k)).length (cellsR (clampL (rs.take k))) ∧ Below w.heap.size w wr) (fun _ s _ => rs.length - (intOf s).toNat)
  case atStart => exact ⟨0, by omega, rfl, World.ownsRow_nil _ _ _ _, Below.refl _ _⟩
  case round =>
    obtain ⟨k, hk, rfl, hown, hbel⟩ := hrel
    by_cases hlt : k < rs.length
    · obtain ⟨b, off, cap', he, hcap, hbs, hc⟩ := RgAt.at (H.out.below hbel) (by omega)
      simp only [Value.slice.injEq, true_and] at he
      obtain ⟨rfl, rfl⟩ := he
      obtain ⟨c1, c2⟩ := hc k hlt
      clear hc
      obtain ⟨r, hr⟩ : ∃ r, r = rs[k] := ⟨_, rfl⟩
      rw [← hr] at c1 c2
      have HR := Lib.hid hr
      clear hr
      have hbe : b ≠ wr.heap.size := by omega
      have hsnoc : clampL (rs.take (k + 1)) = clampL (rs.take k) ++ (if (clampR r).1 ≤ (clampR r).2 then [clampR r] else []) := by
        rw [List.take_add_one, List.getElem?_eq_getElem hlt, ← HR.out]; exact clampL_snoc _ _
      have hlen := clampL_len (rs.take k)
      rw [List.length_take] at hlen
      generalize hC : clampL (rs.take k) = C at hown hsnoc hlen
      have HS := Lib.hid hsnoc
      have HB := Lib.hid hbel
      clear hsnoc hC HR hbel
      have hle : w.heap.size ≤ wr.heap.size := HB.out.size
      go_wp2_with (at_builtin; refine wpList_append2 rfl (.tmp 29) (.tmp 31) 61 rfl w.heap.size 107 i0 (.agg #[.int .i64 0, .int .i64 0]) 16 Try.underlying61 hi hz0 hz1 hz2 rfl _ _ _ rfl (hown.alloc _) _ _ rfl (by simp) rfl rfl (by omega) (by simp; omega) ?_; intro v1 w1 o1 b1 n1)
      · have hc : (clampR r).1 ≤ (clampR r).2 := by assumption
        refine ⟨⟨k + 1, by omega, by go_num, ?_, (HB.out.alloc hle _).trans b1⟩, by simp [intOf]; omega⟩
        rw [HS.out, if_pos hc, List.length_append, cellsR_append]
        exact o1
      · have hc : ¬ (clampR r).1 ≤ (clampR r).2 := by show ¬ max r.1 (-200) ≤ min r.2 200; omega
        refine ⟨⟨k + 1, by omega, by go_num, ?_, HB.out.alloc hle _⟩, by simp [intOf]; omega⟩
        rw [HS.out, if_neg hc, List.append_nil]
        exact hown.alloc _
    · obtain rfl : k = rs.length := by omega
      rw [List.take_length] at hown
      have hlen := clampL_len rs
      generalize hC : clampL rs = C at hown hlen
      obtain ⟨ao2, cap2, rfl, _⟩ := (SlAt.of_own hown).shape
      have CS := sort_all _ C wr w.heap.size hown hbel.size (by omega)
      have HB := Lib.hid hbel
      have hmem := mergeL_norm rs
      rw [hC] at hmem
      have HM := Lib.hid hmem
      have HC := Lib.hid hC
      clear hC hbel hown hmem
      generalize C.length = n at CS hlen ⊢
      go_wp2_with (go_at_call 118; refine CS.mono ?_; rintro e W ⟨rfl, l, rfl, hlm, hlp, hown, hbel⟩; clear CS; have HN := Lib.hid (HM.out l hlm hlp); have HBD := Lib.hid (mergeL_bounds l (fun r hr => clampL_ok rs r (by rw [HC.out]; exact (hlm r).1 hr)) hlp); clear hlm hlp HM; have HW := Lib.hid (HB.out.trans hbel); clear hbel HB)
      have hl2 : l.length ≤ 4096 := by omega
      have HO := Lib.hid (RgAt.own hown)
      clear hown
      go_loopw [6, 38] (fun o s wr => ∃ k : Nat, k ≤ l.length ∧ s = .int .i64 k ∧ wr.ownsRow W.heap.size 107 2 o (mergeL (l.take k)).length (cellsR (mergeL (l.take k))) ∧ Below W.heap.size W wr) (fun _ s _ => l.length - (intOf s).toNat)
      case atStart => exact ⟨0, by omega, rfl, World.ownsRow_nil _ _ _ _, Below.refl _ _⟩
      case round =>
        obtain ⟨k, hk, rfl, hown, hbel⟩ := hrel
        by_cases hlt : k < l.length
        · obtain ⟨b, off, cap', he, hcap, hbs, hc⟩ := RgAt.at (HO.out.below hbel) (by omega)
          simp only [Value.slice.injEq, true_and] at he
          obtain ⟨rfl, rfl⟩ := he
          obtain ⟨c1, c2⟩ := hc k hlt
          clear hc
          have hbd := HBD.out k
          obtain ⟨r, hr⟩ : ∃ r, r = l[k] := ⟨_, rfl⟩
          rw [← hr] at c1 c2
          have hsnoc : mergeL (l.take (k + 1)) = pushR (mergeL (l.take k)) r := by
            rw [List.take_add_one, List.getElem?_eq_getElem hlt, ← hr]; exact mergeL_snoc _ _
          have hlen := mergeL_len (l.take k)
          rw [List.length_take] at hlen
          clear hr
          have hbe : b ≠ wr.heap.size := by omega
          generalize hM : mergeL (l.take k) = M at hown hsnoc hlen hbd
          clear hM
          have HS := Lib.hid hsnoc
          have HB := Lib.hid hbel
          clear hsnoc hbel
          have hle : W.heap.size ≤ wr.heap.size := HB.out.size
          rcases List.eq_nil_or_concat M with rfl | ⟨M', p, rfl⟩
          · obtain ⟨oa, oc, rfl, _⟩ := (SlAt.of_own hown).shape
            rw [show ([] : List Rg).length = 0 from rfl] at hown ⊢
            go_wp2
            go_quiet (fail)
            go_wp2_with (at_builtin; refine wpList_append2 rfl (.tmp 72) (.tmp 74) 61 rfl W.heap.size 107 i0 (.agg #[.int .i64 0, .int .i64 0]) 16 Try.underlying61 hi hz0 hz1 hz2 rfl _ _ _ rfl (hown.alloc _) _ _ rfl (by simp) rfl rfl (by simp) (by simp; omega) ?_; intro v1 w1 o1 b1 n1)
            refine ⟨⟨k + 1, by omega, by go_num, ?_, (below_drewN (HB.out.alloc hle _) _).trans b1⟩, by simp [intOf]; omega⟩
            rw [HS.out]
            exact o1
          · rw [List.concat_eq_append] at hown HS hlen hbd
            obtain ⟨g, oc, rfl, hgb, hcells⟩ := owns_pos hown (by simp)
            obtain ⟨d1, d2⟩ := cellsR_at (M' ++ [p]) M'.length (by simp)
            have g1 := hcells (M'.length * 2 + 1) (by simp; omega)
            rw [d2] at g1
            simp only [List.getElem_append_right, Nat.le_refl, Nat.sub_self, List.getElem_cons_zero] at g1
            have gf := hown.frozenAt (M'.length * 2 + 1)
            obtain ⟨hb1, hb2⟩ := hbd p (by simp)
            have hgs : g < wr.heap.size := World.block_lt_of_cell? wr _ g1
            have hge : g ≠ wr.heap.size := by omega
            have hML : (M' ++ [p]).length = M'.length + 1 := by simp
            rw [pushR_snoc] at HS
            rw [hML] at hown hlen ⊢
            obtain ⟨m, hm⟩ : ∃ m, m = M'.length := ⟨_, rfl⟩
            rw [← hm] at g1 gf hlen hown ⊢
            have Hm := Lib.hid hm
            clear hm hML d1 d2 hcells
            by_cases ht : r.1 ≤ p.2 + 1
            · have g0 : decide (((m + 1 : Nat) : Int) > 0) = true := by simp
              go_wp2
              have g2 : (wr.alloc (.cells #[.int .i64 r.1, .int .i64 r.2] 107)).cell? ⟨g, m * 2 + 1, none⟩ = some (.int .i64 p.2) := Lib.cell?_alloc_some _ g1
              go_quiet (fail)
              have gf2 : (wr.alloc (.cells #[.int .i64 r.1, .int .i64 r.2] 107)).frozen? ⟨g, m * 2 + 1, none⟩ = false := by rw [frozen?_alloc_cells]; exact gf
              go_wp2
              have q1 : ((wr.alloc (.cells #[.int .i64 r.1, .int .i64 r.2] 107)).drewN nq).cell? ⟨wr.heap.size, 1, none⟩ = some (.int .i64 r.2) := by simp
              have q2 : ((wr.alloc (.cells #[.int .i64 r.1, .int .i64 r.2] 107)).drewN nq).cell? ⟨g, m * 2 + 1, none⟩ = some (.int .i64 p.2) := g2
              have q3 : ((wr.alloc (.cells #[.int .i64 r.1, .int .i64 r.2] 107)).drewN nq).frozen? ⟨g, m * 2 + 1, none⟩ = false := gf2
              have q4 := Try.ownsRow_drewN (hown.alloc (.cells #[.int .i64 r.1, .int .i64 r.2] 107)) nq
              have q5 := Lib.hid (below_drewN (HB.out.alloc hle (.cells #[.int .i64 r.1, .int .i64 r.2] 107)) nq)
              generalize hW2 : (wr.alloc (.cells #[.int .i64 r.1, .int .i64 r.2] 107)).drewN nq = W2 at q1 q2 q3 q4 q5 ⊢
              clear g2 gf2 hW2 g1 gf hown c1 c2
              have Q4 := Lib.hid q4
              clear q4
              go_region
              go_wp2
              have s1 := Q4.out.stored (m * 2 + 1) (.int .i64 (max p.2 r.2))
              refine ⟨⟨k + 1, by omega, by go_num, ?_, below_drewN ((q5.out).setCell (p := ⟨g, m * 2 + 1, none⟩) hgb _) 1⟩, by simp [intOf]; omega⟩
              rw [HS.out, if_pos ht, ← cellsR_last, ← Hm.out, List.length_append, ← Hm.out]
              exact s1.1
            · have g0 : decide (((m + 1 : Nat) : Int) > 0) = true := by simp
              go_wp2
              have g2 : (wr.alloc (.cells #[.int .i64 r.1, .int .i64 r.2] 107)).cell? ⟨g, m * 2 + 1, none⟩ = some (.int .i64 p.2) := Lib.cell?_alloc_some _ g1
              go_quiet (fail)
              go_wp2_with (at_builtin; refine wpList_append2 rfl (.tmp 72) (.tmp 74) 61 rfl W.heap.size 107 i0 (.agg #[.int .i64 0, .int .i64 0]) 16 Try.underlying61 hi hz0 hz1 hz2 rfl _ _ _ rfl (hown.alloc _) _ _ rfl (by simp) rfl rfl (by omega) (by simp; omega) ?_; intro v1 w1 o1 b1 n1)
              refine ⟨⟨k + 1, by omega, by go_num, ?_, (below_drewN (HB.out.alloc hle _) _).trans b1⟩, by simp [intOf]; omega⟩
              rw [HS.out, if_neg (by omega), List.length_append, List.length_append, cellsR_append _ [r], ← Hm.out]
              exact o1
        · obtain rfl : k = l.length := by omega
          rw [List.take_length, HN.out] at hown
          go_wp2
          go_ret
          exact ⟨_, rfl, RgAt.own hown, HW.out.trans (hbel.mono HW.out.size), fun _ hb => Nat.le_trans HW.out.size (own_ge hown hb)⟩

/-- it returns the list L, in memory of its own or older, and turns nothing that was there -/
def RetR (L : List Rg) (w : World) (e : Ending) (w' : World) : Prop := ∃ ao cap, e = .returned (.slice ao L.length cap) ∧ RgAt w' (.slice ao L.length cap) L ∧ Below w.heap.size w w'
theorem retR_of {P : Program} {f : FuncId} {args : Array Value} {w : World} {L : List Rg} (h : Calls P f args w fun e w' => ∃ v', e = .returned v' ∧ RgAt w' v' L ∧ Below w.heap.size w w') : Calls P f args w (RetR L w) :=
  h.mono fun e w' ⟨v', he, hr, hb⟩ => by
    obtain ⟨ao, cap, rfl, _⟩ := hr.shape
    exact ⟨ao, cap, he, hr, hb⟩
/-- the list L, in new memory -/
def RetN (L : List Rg) (w : World) (e : Ending) (w' : World) : Prop := ∃ ao cap, e = .returned (.slice ao L.length cap) ∧ RgAt w' (.slice ao L.length cap) L ∧ Below w.heap.size w w' ∧ ∀ b, (Value.slice ao L.length cap).ownBlock = some b → w.heap.size ≤ b
theorem RetN.toR {L : List Rg} {w w' : World} {e : Ending} (h : RetN L w e w') : RetR L w e w' := by
  obtain ⟨ao, cap, h1, h2, h3, _⟩ := h
  exact ⟨ao, cap, h1, h2, h3⟩
theorem norm_n (v : Value) (rs : List Rg) (w : World) (h : RgAt w v rs) (hl : rs.length ≤ 4096) : Calls Try.prog 90 #[v] w (RetN (norm rs) w) :=
  (norm_any v rs w h hl).mono fun e w' ⟨v', he, hr, hb, hn⟩ => by
    obtain ⟨ao, cap, rfl, _⟩ := hr.shape
    exact ⟨ao, cap, he, hr, hb, hn⟩
theorem norm_c (v : Value) (rs : List Rg) (w : World) (h : RgAt w v rs) (hl : rs.length ≤ 4096) : Calls Try.prog 90 #[v] w (RetR (norm rs) w) := (norm_n v rs w h hl).mono fun _ _ h => h.toR
def slen : Value → Nat
  | .slice _ n _ => n
  | _ => 0
theorem slen_slice (a : Option Addr) (n c : Nat) : slen (.slice a n c) = n := rfl
end Go.Proofs.Ytmffobadnmkpbaa
namespace Go.Proofs.Ytmffobadnmkpbaa
open Go.RowKit

theorem many_c (va vb : Value) (a b : List Rg) (w : World) (ha : RgAt w va a) (hb : RgAt w vb b) :
    Calls Try.prog 54 #[va, vb] w fun e w' => e = .returned (.bool (decide (100 < a.length) || decide (100 < b.length))) ∧ w = w' := by
  obtain ⟨ao, cap, rfl, _⟩ := ha.shape
  obtain ⟨ao2, cap2, rfl, _⟩ := hb.shape
  clear ha hb
  by_cases h1 : 100 < a.length
  · go_enter Try.func54, Try.ntmps54
    go_wp2
    go_ret
    exact ⟨ret_bool (by simp), rfl⟩
  · by_cases h2 : 100 < b.length
    all_goals
      go_enter Try.func54, Try.ntmps54
      go_wp2
      go_ret
      refine ⟨ret_bool ?_, rfl⟩
      have e1 : decide ((100 : Int) < (a.length : Int)) = decide (100 < a.length) := decide_eq_decide.2 (by omega)
      have e2 : decide ((100 : Int) < (b.length : Int)) = decide (100 < b.length) := decide_eq_decide.2 (by omega)
      rw [e1, e2]
set_option maxRecDepth 100000 in
set_option maxHeartbeats 800000 in
theorem same_c (va vb : Value) (a b : List Rg) (w : World) (ha : RgAt w va a) (hb : RgAt w vb b) (hla : a.length ≤ 4096) (hlb : b.length ≤ 4096) :
    Calls Try.prog 58 #[va, vb] w fun e w' => e = .returned (.bool (decide (a = b))) ∧ ∃ q, w' = w.drewN q := by
  obtain ⟨ao, cap, rfl, _⟩ := ha.shape
  obtain ⟨ao2, cap2, rfl, _⟩ := hb.shape
  have HA := Lib.hid ha
  have HB := Lib.hid hb
  clear ha hb
  by_cases h1 : ¬ a.length = b.length
  · go_enter Try.func58, Try.ntmps58
    go_wp2
    go_ret
    exact ⟨ret_bool (by symm; simp; intro h; exact h1 (by rw [h])), 0, rfl⟩
  · have h2 : a.length = b.length := Decidable.not_not.1 h1
    clear h1
    have h1 := h2
    clear h2
    rw [← h1] at HB ⊢
    have H1 := Lib.hid h1
    clear h1
    go_enter Try.func58, Try.ntmps58
    go_wp2
    go_loopw [5] (fun s wr => ∃ k q : Nat, k ≤ a.length ∧ s = .int .i64 k ∧ wr = w.drewN q ∧ a.take k = b.take k) (fun s _ => a.length - (intOf s).toNat)
    case atStart => exact ⟨0, 0, by omega, rfl, rfl, rfl⟩
    case round =>
      obtain ⟨k, q, hk, rfl, rfl, hE⟩ := hrel
      by_cases hlt : k < a.length
      · obtain ⟨b1, o1, c1, he, hc1, hb1, hc⟩ := RgAt.at HA.out (by omega)
        simp only [Value.slice.injEq, true_and] at he
        obtain ⟨rfl, rfl⟩ := he
        obtain ⟨b2, o2, c2, he, hc2, hb2, hd⟩ := RgAt.at HB.out (by rw [← H1.out]; omega)
        simp only [Value.slice.injEq] at he
        obtain ⟨rfl, _, rfl⟩ := he
        obtain ⟨p1, p2⟩ := hc k hlt
        obtain ⟨p3, p4⟩ := hd k (by rw [← H1.out]; exact hlt)
        have hta : a.take (k + 1) = a.take k ++ [a[k]] := List.take_succ_eq_append_getElem hlt
        have htb : b.take (k + 1) = b.take k ++ [b[k]'(by rw [← H1.out]; exact hlt)] := List.take_succ_eq_append_getElem _
        obtain ⟨r, hr⟩ : ∃ r, r = a[k] := ⟨_, rfl⟩
        obtain ⟨s, hs⟩ : ∃ s, s = b[k]'(by rw [← H1.out]; exact hlt) := ⟨_, rfl⟩
        rw [← hr] at p1 p2 hta
        rw [← hs] at p3 p4 htb
        have HT := Lib.hid (And.intro hta htb)
        have HE := Lib.hid hE
        have HR := Lib.hid (And.intro hr hs)
        clear hc hd hta htb hr hs hE
        have f1 := neqRg r s
        have f2 := guardRg .neq
        go_wp2
        go_quiet (fail)
        go_wp2
        · have hne : (!decide (r = s)) = true := by assumption
          go_ret
          refine ⟨ret_bool ?_, q + nq, World.drewN_drewN _ _ _⟩
          have hab : a ≠ b := fun h => by
            subst h
            have := HR.out.1.trans HR.out.2.symm
            simp [this] at hne
          simp [hab]
        · have he : (!decide (r = s)) = false := by assumption
          have he' : r = s := by simpa using he
          refine ⟨⟨k + 1, q + nq, by omega, by go_num, rfl, ?_⟩, by simp [intOf]; omega⟩
          rw [HT.out.1, HT.out.2, HE.out, he']
      · obtain rfl : k = a.length := by omega
        go_wp2
        go_ret
        refine ⟨ret_bool ?_, q, rfl⟩
        have hab : a = b := by
          rw [List.take_length, H1.out, List.take_length] at hE
          exact hE
        simp [hab]
end Go.Proofs.Ytmffobadnmkpbaa
namespace Go.Proofs.Ytmffobadnmkpbaa
open Go.Shelf
def Try.growRg_ren : Go.Shelf.Ren := ⟨fun | 4 => 149 | n => n, fun | 22 => 61 | 25 => 107 | 3 => 3 | 4 => 4 | 9 => 9 | 20 => 20 | 0 => 0 | 2 => 3 | n => n, fun | n => n⟩
theorem Try.growRg : Go.Proofs.Lays8.n4 Try.prog Try.growRg_ren := {
  mixed := by kernel_rfl
  f4 := ⟨Try.f149.name, by decide, Try.func149.trans (congrArg some (by kernel_rfl))⟩
  t0 := Try.underlying0
  a0 := Try.isAgg0
  z0 := Try.sizeOf0
  v0 := Try.zeroValue0
  t3 := Try.underlying3
  a3 := Try.isAgg3
  z3 := Try.sizeOf3
  v3 := Try.zeroValue3
  t4 := Try.underlying4
  a4 := Try.isAgg4
  z4 := Try.sizeOf4
  v4 := Try.zeroValue4
  t9 := Try.underlying9
  a9 := Try.isAgg9
  z9 := Try.sizeOf9
  v9 := Try.zeroValue9
  t20 := Try.underlying20
  a20 := Try.isAgg20
  z20 := Try.sizeOf20
  v20 := Try.zeroValue20
  t22 := Try.underlying61
  a22 := Try.isAgg61
  z22 := Try.sizeOf61
  v22 := Try.zeroValue61 }

end Go.Proofs.Ytmffobadnmkpbaa
namespace Go.Proofs.Ytmffobadnmkpbaa
open Go.RowKit

/-- slices.Grow of the nil slice: nil, or an own row with room -/
theorem grow_c (n : Nat) (w : World) (hn : n ≤ 4096) :
    Calls Try.prog 149 #[.slice none 0 0, .int .i64 n] w fun e w' => ∃ ao cap, e = .returned (.slice ao 0 cap) ∧ w'.ownsRow w.heap.size 107 2 (.slice ao 0 cap) 0 [] ∧ Below w.heap.size w w' := by
  obtain ⟨i0, hi, hz0, hz1, hz2⟩ := info_parts Try.infoRg
  rcases Nat.eq_zero_or_pos n with rfl | hp
  · have h := Any8.slices_Grow_room Try.growRg none 0 0 0 w (Nat.le_refl _) (by decide) (by decide) (by decide)
    change Calls Try.prog 149 _ _ _ at h
    exact h.mono fun e w' ⟨he, hw⟩ => ⟨none, 0, he, World.ownsRow_nil _ _ _ _, by rw [hw]; exact Below.refl _ _⟩
  · have h := Any8.slices_Grow_grow Try.growRg i0 (.agg #[.int .i64 0, .int .i64 0]) hi hz0 (by omega) none 0 0 n [] w (Nat.le_refl _) (by omega) (by rw [hz2]; omega) (by omega) (by simp) (fun _ => rfl) (fun a ha => by cases ha)
    change Calls Try.prog 149 _ _ _ at h
    refine h.mono fun e w' ⟨he, hw⟩ => ⟨_, _, he, ?_, ?_⟩
    · have g1 := grownCap_ge w (0 + n) 0 (Try.growRg_ren.t 25)
      have g2 := grownCap_le_maxLen w (0 + n) 0 (Try.growRg_ren.t 25) (by simp [maxLen]; omega)
      rw [hw]
      refine World.ownsRow_made w.drew _ _ (Nat.le_refl _) g2 ?_
      have e2 : (Value.agg #[.int .i64 0, .int .i64 0]).cells.size = 2 := rfl
      simp only [Array.size_append, List.size_toArray, List.length_nil, size_zeroCells, e2]
      omega
    · rw [hw]; exact (below_drewN (Below.refl _ _) 1).alloc (Nat.le_refl _) _

set_option maxRecDepth 100000 in
set_option maxHeartbeats 800000 in
theorem concat_c (va vb : Value) (a b : List Rg) (B : Nat) (w : World) (ha : RgAt w va a) (hb : RgAt w vb b) (hla : a.length ≤ 2048) (hlb : b.length ≤ 2048)
    (hc1 : w.cell? ⟨B, 0, none⟩ = some va) (hc2 : w.cell? ⟨B, 1, none⟩ = some vb) :
    Calls Try.prog 120 #[.slice (some ⟨B, 0, none⟩) 2 2] w (RetR (a ++ b) w) := by
  obtain ⟨i0, hi, hz0, hz1, hz2⟩ := info_parts Try.infoRg
  obtain ⟨ao, cap, rfl, hcap1, hcap2⟩ := ha.shape
  obtain ⟨ao2, cap2, rfl, hcap3, hcap4⟩ := hb.shape
  have HA := Lib.hid ha
  have HB := Lib.hid hb
  have HB0 := World.block_lt_of_cell? w _ hc1
  clear ha hb
  go_enter Try.func120, Try.ntmps120
  go_wp2
  go_loop [3, 11] (fun t s => ∃ k : Nat, k ≤ 2 ∧ s = .int .i64 k ∧ t = .int .i64 ((if k = 0 then 0 else if k = 1 then a.length else a.length + b.length : Nat) : Int)) (fun _ s => 2 - (intOf s).toNat)
  case atStart => exact ⟨0, by omega, rfl, rfl⟩
  case round =>
    obtain ⟨k, hk, rfl, rfl⟩ := hrel
    rcases (show k = 0 ∨ k = 1 ∨ k = 2 by omega) with rfl | rfl | rfl
    · rw [if_pos rfl]
      go_wp2
      exact ⟨⟨1, by omega, by go_num, by simp⟩, by simp [intOf]⟩
    · rw [if_neg (by decide), if_pos rfl]
      go_wp2
      exact ⟨⟨2, by omega, by go_num, by simp⟩, by simp [intOf]⟩
    · rw [if_neg (by decide), if_neg (by decide)]
      have CG := grow_c (a.length + b.length) w (by omega)
      rw [Int.natCast_add] at CG
      have CG2 := Lib.hid CG
      clear CG
      go_wp2_with (go_at_call 149; (with_reducible refine CG2.out.mono ?_); rintro e W ⟨ag, cg, rfl, og, bg⟩)
      have HW := Lib.hid bg
      clear bg
      go_loopw [6, 27] (fun o s wr => ∃ k : Nat, ∃ L : List Rg, k ≤ 2 ∧ s = .int .i64 k ∧ L = (if k = 0 then [] else if k = 1 then a else a ++ b) ∧ wr.ownsRow w.heap.size 107 2 o L.length (cellsR L) ∧ Below w.heap.size w wr) (fun _ s _ => 2 - (intOf s).toNat)
      case atStart => exact ⟨0, [], by omega, rfl, rfl, og, HW.out⟩
      case round =>
        obtain ⟨k, L, hk, rfl, hL, hown, hbel⟩ := hrel
        have HB1 := Lib.hid hbel
        have hle := hbel.size
        clear hbel
        have d1 := (HB1.out.cell (p := ⟨B, 0, none⟩) HB0).trans hc1
        have d2 := (HB1.out.cell (p := ⟨B, 1, none⟩) HB0).trans hc2
        rcases (show k = 0 ∨ k = 1 ∨ k = 2 by omega) with rfl | rfl | rfl
        · obtain rfl : L = [] := hL
          go_wp2_with (at_builtin; refine wpList_append_sl rfl (.tmp 31) (.tmp 32) 61 rfl w.heap.size 107 i0 (.agg #[.int .i64 0, .int .i64 0]) 2 16 Try.underlying61 hi hz0 hz1 hz2 rfl (by decide) _ _ _ rfl hown _ _ _ rfl (HA.out.below HB1.out) (cellsR_one _) (by simp; omega) hle ?_; intro v1 w1 o1 b1 g1; clear g1)
          refine ⟨⟨1, a, by omega, rfl, rfl, ?_, HB1.out.trans b1⟩, by simp [intOf]⟩
          rw [show cellsR ([] : List Rg) = [] from rfl, List.nil_append, show ([] : List Rg).length = 0 from rfl, Nat.zero_add] at o1
          exact o1
        · obtain rfl : L = a := hL
          go_wp2_with (at_builtin; refine wpList_append_sl rfl (.tmp 31) (.tmp 32) 61 rfl w.heap.size 107 i0 (.agg #[.int .i64 0, .int .i64 0]) 2 16 Try.underlying61 hi hz0 hz1 hz2 rfl (by decide) _ _ _ rfl hown _ _ _ rfl (HB.out.below HB1.out) (cellsR_one _) (by omega) hle ?_; intro v1 w1 o1 b1 g1; clear g1)
          refine ⟨⟨2, L ++ b, by omega, rfl, rfl, ?_, HB1.out.trans b1⟩, by simp [intOf]⟩
          rw [List.length_append, cellsR_append]
          exact o1
        · obtain rfl : L = a ++ b := hL
          obtain ⟨oa, oc, rfl, _⟩ := (SlAt.of_own hown).shape
          go_wp2
          go_ret
          exact ⟨_, _, rfl, RgAt.own hown, HB1.out⟩

end Go.Proofs.Ytmffobadnmkpbaa
