/-
  LISTS OF RANGES IN MEMORY.
  LAYINGS of library functions at this dump, in plain words (printed by the kit's own commands).
  slices.SortFunc AT AN OWN ROW OF RANGES.
  dom.Norm, walked.
-/
import Derived.Test.YtajooiainglpmaaGreatRows
import Derived.Test.YtajooiainglpmaaGreatKlib1
import Derived.Test.YtajooiainglpmaaGreatKdom1
import Derived.Shelf.SlSortCmp.WholeK
import Derived.Shelf.SlicesG.Cmp
import Derived.Shelf.SlicesQ.IndexFunc
import Derived.Sort.OwnSorted
import Derived.Sort.Grow
import Derived.Shelf.SlSortCmp.NoneTotal
import Derived.BigQuiet
import Derived.BigRegion
namespace Go.Proofs.YtajooiainglpmaaGreat
open Go.RowKit

def cellsR (rs : List Rg) : List Value := rs.flatMap fun r => [Value.int .i64 r.1, Value.int .i64 r.2]
theorem cellsR_length (rs : List Rg) : (cellsR rs).length = rs.length * 2 := by
  induction rs with
  | nil => rfl
  | cons r rs ih => simp [cellsR] at ih ⊢; omega
theorem cellsR_cons (r : Rg) (rs : List Rg) : cellsR (r :: rs) = .int .i64 r.1 :: .int .i64 r.2 :: cellsR rs := rfl
theorem cellsR_append (a b : List Rg) : cellsR (a ++ b) = cellsR a ++ cellsR b := by simp [cellsR]
theorem cellsR_at (rs : List Rg) : ∀ j, (hj : j < rs.length) → (cellsR rs)[j * 2]? = some (.int .i64 rs[j].1) ∧ (cellsR rs)[j * 2 + 1]? = some (.int .i64 rs[j].2) := by
  induction rs with
  | nil => intro j hj; simp at hj
  | cons r rs ih =>
    intro j hj
    cases j with
    | zero => exact ⟨rfl, rfl⟩
    | succ j =>
      have := ih j (by simpa using hj)
      rw [cellsR_cons, show (j + 1) * 2 = j * 2 + 1 + 1 by omega]
      exact this
theorem cellsR_drop (rs : List Rg) (m : Nat) : (cellsR rs).drop (m * 2) = cellsR (rs.drop m) := by
  induction rs generalizing m with
  | nil => simp [cellsR]
  | cons r rs ih =>
    cases m with
    | zero => rfl
    | succ m => rw [cellsR_cons, show (m + 1) * 2 = m * 2 + 1 + 1 by omega]; exact ih m
theorem cellsR_take (rs : List Rg) (m : Nat) : (cellsR rs).take (m * 2) = cellsR (rs.take m) := by
  induction rs generalizing m with
  | nil => simp [cellsR]
  | cons r rs ih =>
    cases m with
    | zero => simp [cellsR]
    | succ m =>
      rw [cellsR_cons, show (m + 1) * 2 = m * 2 + 1 + 1 by omega]
      show Value.int .i64 r.1 :: Value.int .i64 r.2 :: (cellsR rs).take (m * 2) = _
      rw [ih m]; rfl
theorem cellsR_one (rs : List Rg) : ∀ u ∈ cellsR rs, u.oneCell' = true := by
  intro u hu
  obtain ⟨r, _, h⟩ := List.mem_flatMap.1 hu
  simp at h
  rcases h with rfl | rfl <;> rfl

/-- v is the list of ranges rs -/
def RgAt (w : World) (v : Value) (rs : List Rg) : Prop := SlAt w 2 v rs.length (cellsR rs)
theorem RgAt.below {w w' : World} {v : Value} {rs : List Rg} (h : RgAt w v rs) (hb : Below w.heap.size w w') : RgAt w' v rs := SlAt.below h hb
theorem RgAt.nil {w : World} : RgAt w (.slice none 0 0) [] := SlAt.nil
theorem RgAt.own {w : World} {base : Nat} {e : TypeId} {v : Value} {rs : List Rg} (h : w.ownsRow base e 2 v rs.length (cellsR rs)) : RgAt w v rs := SlAt.of_own h
theorem RgAt.at {w : World} {v : Value} {rs : List Rg} (h : RgAt w v rs) (hp : 0 < rs.length) :
    ∃ b off cap, v = .slice (some ⟨b, off, none⟩) rs.length cap ∧ rs.length ≤ cap ∧ b < w.heap.size ∧
      ∀ j, (hj : j < rs.length) → w.cell? ⟨b, off + j * 2, none⟩ = some (.int .i64 rs[j].1) ∧ w.cell? ⟨b, off + j * 2 + 1, none⟩ = some (.int .i64 rs[j].2) := by
  obtain ⟨b, off, cap, rfl, h1, _, h2, h3⟩ := SlAt.pos h (by omega)
  refine ⟨b, off, cap, rfl, h1, h2, fun j hj => ?_⟩
  obtain ⟨a1, a2⟩ := cellsR_at rs j hj
  have b1 := h3 (j * 2) (by omega)
  have b2 := h3 (j * 2 + 1) (by omega)
  rw [a1] at b1
  rw [a2] at b2
  exact ⟨b1, b2⟩

theorem RgAt.empty {w : World} {b o : Nat} (_u : Nat) : RgAt w (.slice (some ⟨b, o, none⟩) 0 0) [] :=
  ⟨rfl, _, _, rfl, Nat.le_refl _, by simp [maxLen], fun _ => rfl, fun h => by simp at h⟩
theorem RgAt.tail_lt {w : World} {b o c : Nat} {r : Rg} {xs : List Rg} (h : RgAt w (.slice (some ⟨b, o, none⟩) (xs.length + 1) c) (r :: xs)) : RgAt w (.slice (some ⟨b, o + 2, none⟩) xs.length (c - 1)) xs := by
  have h' : SlAt w 2 (.slice (some ⟨b, o, none⟩) (xs.length + 1) c) (xs.length + 1) (cellsR (r :: xs)) := h
  exact SlAt.drop (by decide) h' 1 (by omega) (by omega) rfl (fun _ b' o' he => by simp at he; rw [he.1, he.2]) (fun _ he => by cases he)
theorem Tryz.infoRg : (Tryz.prog.info? 32).map (fun i => (i.zero, i.size, i.bytes)) = some (some (.agg #[.int .i64 0, .int .i64 0]), 2, 16) := by kernel_rfl

/-- 'out = append(out, r)', r of two cells, laid in a new block just before -/
theorem wpList_append2g {P : Program} {w0 : World} {ops : Array Oper} {rest : List Oper} {o : Oper} {a : Act} {Q : Exit → Act → World → Prop} (hgd : o.guard = none) (s x : Operand) (t : TypeId)
    (ho : o.op = .call { callee := .builtin .append, args := #[s, x], argTypes := #[t, t] })
    (base : Nat) (e : TypeId) (i : TypeInfo) (z : Value) (bytes : Nat) (ht : P.underlying t = some (.slice e)) (hi : P.info? e = some i) (hz : i.zero = some z)
    (hsize : i.size = 2) (hby : i.bytes = bytes) (hzs : z.cells.size = 2)
    (v : Value) (n : Nat) (xs : List Value) (hs : a.eval s = v) (hown : w0.ownsRow base e 2 v n xs) {e' : TypeId}
    (u1 u2 : Value) {g : Nat} (hx : a.eval x = .slice (some ⟨g, 0, none⟩) 1 1) (hg : w0.heap.size = g) (h1 : u1.oneCell' = true) (h2 : u2.oneCell' = true)
    (hbytes : (n + 1) * bytes ≤ 140737488355328 ∧ n + 1 ≤ 140737488355328) (hbase : base ≤ w0.heap.size)
    (h : ∀ v' w', w'.ownsRow base e 2 v' (n + 1) (xs ++ [u1, u2]) → Below base w0 w' → (∀ b off u, v.ownBlock ≠ some b → w0.cell? ⟨b, off, none⟩ = some u → w'.cell? ⟨b, off, none⟩ = some u) → wpList P ops Q rest (a.put o.dst v') w') :
    wpList P ops Q (o :: rest) a (w0.alloc (.cells #[u1, u2] e')) := by
  subst hg
  refine wpList_append_own _ hgd s x t ho base e i z 2 bytes ht hi hz hsize hby hzs (by decide) v n xs hs (hown.alloc _) ⟨w0.heap.size, 0, none⟩ 1 1 [u1, u2] hx rfl ?_ ?_ ?_ hbytes.1 ?_ ?_
  · intro j y hj
    match j, hj with
    | 0, hj => simp at hj; subst hj; simp [Addr.add]
    | 1, hj => simp at hj; subst hj; simp [Addr.add]
  · intro y hy; simp at hy; rcases hy with rfl | rfl <;> assumption
  · unfold maxLen; omega
  · simp; omega
  · intro v' w' r1 r2 r3
    refine h v' w' r1 (below_grown hbase r2 (ownBlock_ge hown)) (fun b off u hne hc => ?_)
    have hlt := World.block_lt_of_cell? w0 _ hc
    obtain ⟨_, _, _, _, hk⟩ := r2
    have hc2 := Lib.cell?_alloc_some (.cells #[u1, u2] e') hc
    rw [← hc2]
    exact World.cell?_of_block (hk b (by simp at hlt ⊢; omega) (fun he => hne he.symm))
theorem wpList_append2 {P : Program} {w0 : World} {ops : Array Oper} {rest : List Oper} {o : Oper} {a : Act} {Q : Exit → Act → World → Prop} (hgd : o.guard = none) (s x : Operand) (t : TypeId)
    (ho : o.op = .call { callee := .builtin .append, args := #[s, x], argTypes := #[t, t] })
    (base : Nat) (e : TypeId) (i : TypeInfo) (z : Value) (bytes : Nat) (ht : P.underlying t = some (.slice e)) (hi : P.info? e = some i) (hz : i.zero = some z)
    (hsize : i.size = 2) (hby : i.bytes = bytes) (hzs : z.cells.size = 2)
    (v : Value) (n : Nat) (xs : List Value) (hs : a.eval s = v) (hown : w0.ownsRow base e 2 v n xs) {e' : TypeId}
    (u1 u2 : Value) {g : Nat} (hx : a.eval x = .slice (some ⟨g, 0, none⟩) 1 1) (hg : w0.heap.size = g) (h1 : u1.oneCell' = true) (h2 : u2.oneCell' = true)
    (hbytes : (n + 1) * bytes ≤ 140737488355328 ∧ n + 1 ≤ 140737488355328) (hbase : base ≤ w0.heap.size)
    (h : ∀ v' w', w'.ownsRow base e 2 v' (n + 1) (xs ++ [u1, u2]) → Below base w0 w' → True → wpList P ops Q rest (a.put o.dst v') w') :
    wpList P ops Q (o :: rest) a (w0.alloc (.cells #[u1, u2] e')) :=
  wpList_append2g hgd s x t ho base e i z bytes ht hi hz hsize hby hzs v n xs hs hown u1 u2 hx hg h1 h2 hbytes hbase (fun v' w' a b _ => h v' w' a b trivial)
end Go.Proofs.YtajooiainglpmaaGreat
namespace Go.Proofs.YtajooiainglpmaaGreat
open Go.Shelf
def Tryz.sortRg_ren : Go.Shelf.Ren := ⟨fun | 6 => 59 | 15 => 79 | 14 => 78 | 28 => 97 | 29 => 98 | 20 => 89 | 21 => 90 | 22 => 91 | 23 => 92 | 24 => 93 | 25 => 94 | 26 => 95 | 27 => 96 | 46 => 102 | 47 => 103 | 48 => 104 | 49 => 105 | 50 => 106 | 57 => 107 | n => n, fun | 22 => 22 | 24 => 32 | 25 => 98 | 3 => 3 | 39 => 115 | 0 => 0 | 53 => 135 | 55 => 137 | 4 => 4 | 46 => 129 | 45 => 128 | 50 => 37 | 5 => 5 | 9 => 9 | 66 => 142 | 70 => 146 | 76 => 148 | 77 => 116 | n => n, fun | n => n⟩
theorem Tryz.sortRg : Go.Proofs.SlLaysF0.n6 Tryz.prog Tryz.sortRg_ren := {
  mixed := by kernel_rfl
  f6 := ⟨Tryz.f59.name, by decide, Tryz.func59.trans (congrArg some (by kernel_rfl))⟩
  f14 := ⟨Tryz.f78.name, by decide, Tryz.func78.trans (congrArg some (by kernel_rfl))⟩
  f15 := Tryz.func79.trans (congrArg some (by kernel_rfl))
  f20 := ⟨Tryz.f89.name, by decide, Tryz.func89.trans (congrArg some (by kernel_rfl))⟩
  f21 := ⟨Tryz.f90.name, by decide, Tryz.func90.trans (congrArg some (by kernel_rfl))⟩
  f22 := ⟨Tryz.f91.name, by decide, Tryz.func91.trans (congrArg some (by kernel_rfl))⟩
  f23 := ⟨Tryz.f92.name, by decide, Tryz.func92.trans (congrArg some (by kernel_rfl))⟩
  f24 := ⟨Tryz.f93.name, by decide, Tryz.func93.trans (congrArg some (by kernel_rfl))⟩
  f25 := ⟨Tryz.f94.name, by decide, Tryz.func94.trans (congrArg some (by kernel_rfl))⟩
  f26 := ⟨Tryz.f95.name, by decide, Tryz.func95.trans (congrArg some (by kernel_rfl))⟩
  f27 := ⟨Tryz.f96.name, by decide, Tryz.func96.trans (congrArg some (by kernel_rfl))⟩
  f28 := Tryz.func97.trans (congrArg some (by kernel_rfl))
  f29 := Tryz.func98.trans (congrArg some (by kernel_rfl))
  f46 := ⟨Tryz.f102.name, by decide, Tryz.func102.trans (congrArg some (by kernel_rfl))⟩
  f47 := Tryz.func103.trans (congrArg some (by kernel_rfl))
  f48 := Tryz.func104.trans (congrArg some (by kernel_rfl))
  f49 := ⟨Tryz.f105.name, by decide, Tryz.func105.trans (congrArg some (by kernel_rfl))⟩
  f50 := ⟨Tryz.f106.name, by decide, Tryz.func106.trans (congrArg some (by kernel_rfl))⟩
  f57 := ⟨Tryz.f107.name, by decide, Tryz.func107.trans (congrArg some (by kernel_rfl))⟩
  t0 := Tryz.underlying0
  a0 := Tryz.isAgg0
  z0 := Tryz.sizeOf0
  v0 := Tryz.zeroValue0
  t3 := Tryz.underlying3
  a3 := Tryz.isAgg3
  z3 := Tryz.sizeOf3
  v3 := Tryz.zeroValue3
  t4 := Tryz.underlying4
  a4 := Tryz.isAgg4
  z4 := Tryz.sizeOf4
  v4 := Tryz.zeroValue4
  t5 := Tryz.underlying5
  a5 := Tryz.isAgg5
  z5 := Tryz.sizeOf5
  v5 := Tryz.zeroValue5
  t9 := Tryz.underlying9
  a9 := Tryz.isAgg9
  z9 := Tryz.sizeOf9
  v9 := Tryz.zeroValue9
  t22 := Tryz.underlying22
  a22 := Tryz.isAgg22
  z22 := Tryz.sizeOf22
  v22 := Tryz.zeroValue22
  t25 := Tryz.underlying98
  a25 := Tryz.isAgg98
  z25 := Tryz.sizeOf98
  v25 := Tryz.zeroValue98
  t39 := Tryz.underlying115
  a39 := Tryz.isAgg115
  z39 := Tryz.sizeOf115
  v39 := Tryz.zeroValue115
  t45 := Tryz.underlying128
  a45 := Tryz.isAgg128
  z45 := Tryz.sizeOf128
  v45 := Tryz.zeroValue128
  t46 := Tryz.underlying129
  a46 := Tryz.isAgg129
  z46 := Tryz.sizeOf129
  v46 := Tryz.zeroValue129
  t50 := Tryz.underlying37
  a50 := Tryz.isAgg37
  z50 := Tryz.sizeOf37
  v50 := Tryz.zeroValue37
  t53 := Tryz.underlying135
  a53 := Tryz.isAgg135
  z53 := Tryz.sizeOf135
  v53 := Tryz.zeroValue135
  t55 := Tryz.underlying137
  a55 := Tryz.isAgg137
  z55 := Tryz.sizeOf137
  v55 := Tryz.zeroValue137
  t66 := Tryz.underlying142
  a66 := Tryz.isAgg142
  z66 := Tryz.sizeOf142
  v66 := Tryz.zeroValue142
  t70 := Tryz.underlying146
  a70 := Tryz.isAgg146
  z70 := Tryz.sizeOf146
  v70 := Tryz.zeroValue146
  t76 := Tryz.underlying148
  a76 := Tryz.isAgg148
  z76 := Tryz.sizeOf148
  v76 := Tryz.zeroValue148
  t77 := Tryz.underlying116
  a77 := Tryz.isAgg116
  z77 := Tryz.sizeOf116
  v77 := Tryz.zeroValue116 }
def Tryz.cmpInt_ren : Go.Shelf.Ren := ⟨fun | 5 => 61 | 7 => 80 | n => n, fun | 22 => 3 | 3 => 3 | 4 => 4 | n => n, fun | n => n⟩
theorem Tryz.cmpInt : Go.Proofs.SlLaysC2.n5 Tryz.prog Tryz.cmpInt_ren := {
  mixed := by kernel_rfl
  f5 := ⟨Tryz.f61.name, by decide, Tryz.func61.trans (congrArg some (by kernel_rfl))⟩
  f7 := ⟨Tryz.f80.name, by decide, Tryz.func80.trans (congrArg some (by kernel_rfl))⟩
  t3 := Tryz.underlying3
  a3 := Tryz.isAgg3
  z3 := Tryz.sizeOf3
  v3 := Tryz.zeroValue3
  t4 := Tryz.underlying4
  a4 := Tryz.isAgg4
  z4 := Tryz.sizeOf4
  v4 := Tryz.zeroValue4
  t22 := Tryz.underlying3
  a22 := Tryz.isAgg3
  z22 := Tryz.sizeOf3
  v22 := Tryz.zeroValue3 }
def Tryz.contRg_ren : Go.Shelf.Ren := ⟨fun | 8 => 149 | 6 => 152 | n => n, fun | 22 => 22 | 23 => 32 | 25 => 176 | 4 => 4 | 3 => 3 | 0 => 0 | n => n, fun | n => n⟩
theorem Tryz.contRg : Go.Proofs.SlLaysH0.n8 Tryz.prog Tryz.contRg_ren := {
  mixed := by kernel_rfl
  f6 := ⟨Tryz.f152.name, by decide, Tryz.func152.trans (congrArg some (by kernel_rfl))⟩
  f8 := ⟨Tryz.f149.name, by decide, Tryz.func149.trans (congrArg some (by kernel_rfl))⟩
  t0 := Tryz.underlying0
  a0 := Tryz.isAgg0
  z0 := Tryz.sizeOf0
  v0 := Tryz.zeroValue0
  t3 := Tryz.underlying3
  a3 := Tryz.isAgg3
  z3 := Tryz.sizeOf3
  v3 := Tryz.zeroValue3
  t4 := Tryz.underlying4
  a4 := Tryz.isAgg4
  z4 := Tryz.sizeOf4
  v4 := Tryz.zeroValue4
  t22 := Tryz.underlying22
  a22 := Tryz.isAgg22
  z22 := Tryz.sizeOf22
  v22 := Tryz.zeroValue22
  t25 := Tryz.underlying176
  a25 := Tryz.isAgg176
  z25 := Tryz.sizeOf176
  v25 := Tryz.zeroValue176 }

end Go.Proofs.YtajooiainglpmaaGreat
namespace Go.Proofs.YtajooiainglpmaaGreat
open Go.RowKit Go.Sort Go.Lib

def encR (x : Rg) : List Value := [.int .i64 x.1, .int .i64 x.2]
theorem flat_cells (d : Array Rg) : (flatK encR 2 d).toList = cellsR d.toList := by
  apply List.ext_getElem?
  intro t
  by_cases ht : t < d.size * 2
  · have h1 : (flatK encR 2 d)[t]! = (encR d[t / 2]!)[t % 2]! := get_flatK encR 2 d t ht
    have h2 : (flatK encR 2 d)[t]? = some (flatK encR 2 d)[t]! := by rw [getElem?_pos _ t (by simpa using ht), getElem!_pos _ t (by simpa using ht)]
    rw [Array.getElem?_toList, h2, h1]
    have hd : t / 2 < d.toList.length := by simp; omega
    obtain ⟨a, b⟩ := cellsR_at d.toList (t / 2) hd
    have e : d[t / 2]! = d.toList[t / 2] := by rw [getElem!_pos d (t / 2) (by simpa using hd)]; simp
    rw [e]
    rcases (show t % 2 = 0 ∨ t % 2 = 1 by omega) with h | h
    · rw [show (cellsR d.toList)[t]? = (cellsR d.toList)[t / 2 * 2]? by congr 1; omega, a, h]; rfl
    · rw [show (cellsR d.toList)[t]? = (cellsR d.toList)[t / 2 * 2 + 1]? by congr 1; omega, b, h]; rfl
  · rw [List.getElem?_eq_none (by simp; omega), List.getElem?_eq_none (by rw [cellsR_length]; simp; omega)]

theorem holdsK_of_own {w : World} {g : Nat} {cur : Array Value} {e : TypeId} {rs : List Rg} (hb : w.heap[g]? = some (.cells cur e (0, 0))) (ht : cur.toList.take (rs.length * 2) = cellsR rs) : HoldsK encR 2 w g 0 rs.toArray := by
  intro j hj
  have hj' : j < rs.length * 2 := by simpa using hj
  refine ⟨?_, by simp [World.frozen?, hb]⟩
  have h1 : (cur.toList.take (rs.length * 2))[j]? = (flatK encR 2 rs.toArray).toList[j]? := by rw [ht, flat_cells]
  rw [List.getElem?_take_of_lt hj'] at h1
  simp only [World.cell?, hb, Nat.zero_add, Option.isSome_none, Bool.false_eq_true, if_false, id]
  rw [← Array.getElem?_toList, h1, Array.getElem?_toList, getElem?_pos _ j hj, getElem!_pos _ j hj]

theorem heap_sortedK {w : World} {g n : Nat} {os : Array Obj} {cur : Array Value} {e : TypeId} {fr : Nat × Nat} (d : Array Rg) (hb : w.heap[g]? = some (.cells cur e fr)) :
    (sortWorldK encR 2 w g 0 n d os).heap[g]? = some (.cells (putCells id 0 (flatK encR 2 d) cur) e fr) := by
  have hg : g < w.heap.size := (Array.getElem?_eq_some_iff.1 hb).1
  unfold sortWorldK putRowK
  rw [heap_grow_old _ _ (by simpa using hg)]
  simp [putRow, mapBlock, Sort.ahead, Array.getElem?_modify, hb, onCells]
theorem grownBy_sortedK {w : World} {g n : Nat} {os : Array Obj} (d : Array Rg) : w.grownBy (sortWorldK encR 2 w g 0 n d os) (some g) := by
  refine ⟨rfl, rfl, rfl, by simp [sortWorldK, putRowK], fun k hk hne => ?_⟩
  unfold sortWorldK putRowK
  rw [heap_grow_old _ _ (by simpa using hk)]
  have : g ≠ k := fun e => hne (by rw [e])
  simp [putRow, mapBlock, Sort.ahead, Array.getElem?_modify, this]
theorem take_putCellsK (cur : Array Value) (d : Array Rg) (h : d.size * 2 ≤ cur.size) : (putCells id 0 (flatK encR 2 d) cur).toList.take (d.size * 2) = cellsR d.toList := by
  rw [← flat_cells]
  apply List.ext_getElem?
  intro j
  by_cases hj : j < d.size * 2
  · rw [List.getElem?_take_of_lt hj, Array.getElem?_toList, Array.getElem?_toList, getElem?_pos (flatK encR 2 d) j (by simpa using hj)]
    simp [putCells, hj, show j < cur.size by omega]
  · rw [List.getElem?_take_eq_none (by omega), List.getElem?_eq_none (by simp; omega)]

theorem Tryz.closure (x y : Rg) (W : World) : Calls Tryz.prog 60 #[.agg #[.int .i64 x.1, .int .i64 x.2], .agg #[.int .i64 y.1, .int .i64 y.2]] W fun e w' => e = .returned (.int .i64 (Lib.compareInt x.1 y.1)) ∧ ∃ q os', w' = grow (W.drewN q) os' := by
  have hcon := fun W' => AnyG.cmp_Compare_int Tryz.cmpInt x.1 y.1 W'
  change ∀ W', Calls Tryz.prog 61 _ _ _ at hcon
  generalize Lib.compareInt x.1 y.1 = r at hcon ⊢
  go_enter Tryz.func60, Tryz.ntmps60
  go_wp2_with (go_at_call 61; refine (hcon _).mono ?_; rintro e w' ⟨rfl, rfl⟩)
  go_ret
  exact ⟨rfl, 0, _, by rw [alloc_eq_grow, alloc_eq_grow, grow_grow]; rfl⟩
theorem Tryz.cmpLays (blk off size : Nat) (w : World) : CmpLays Tryz.prog 60 #[] encR 2 (fun x y => Lib.compareInt x.1 y.1) blk off size w :=
  fun _ _ _ _ x y => Tryz.closure x y _
theorem ltLo (x y : Rg) : ltOf (fun x y : Rg => Lib.compareInt x.1 y.1) x y = decide (x.1 < y.1) := by
  unfold ltOf Lib.compareInt
  by_cases h1 : x.1 < y.1
  · simp [h1]
  · by_cases h2 : y.1 < x.1 <;> simp [h1, h2]
theorem swoLo : SWO (ltOf fun x y : Rg => Lib.compareInt x.1 y.1) where
  irrefl x := by rw [ltLo]; simp
  trans x y z h1 h2 := by rw [ltLo] at *; simp at *; omega
  ntrans x y z h1 h2 := by rw [ltLo] at *; simp at *; omega

/-- slices.SortFunc by the lower ends, of an own row: the same row owns a list with the same ranges that rises -/
theorem sort_own (v : Value) (rs : List Rg) (w : World) (base : Nat) (hown : w.ownsRow base 32 2 v rs.length (cellsR rs)) (hbase : base ≤ w.heap.size) (hp : 0 < rs.length) (hl : rs.length ≤ 4096) :
    Calls Tryz.prog 59 #[v, .func (.func 60) #[] #[]] w fun e w' => e = .returned (.tuple #[]) ∧
      ∃ l : List Rg, l.length = rs.length ∧ (∀ r, r ∈ l ↔ r ∈ rs) ∧ l.Pairwise (fun a b => a.1 ≤ b.1) ∧ w'.ownsRow base 32 2 v l.length (cellsR l) ∧ Below base w w' ∧ w.grownBy w' v.ownBlock := by
  have hge := ownBlock_ge hown
  rcases hown.2 with ⟨_, h0⟩ | ⟨g, cap, cur, rfl, hbg, hb, h1, h2, h3, h4⟩
  · omega
  have eg : ∀ args w, (callFunc 60 args).run Tryz.prog w = .ok (.enter 60 args) w := enters_of Tryz.func60 (by kernel_rfl) rfl
  have hcon := AnyQ.slices_SortFunc Tryz.sortRg 2 Tryz.isAgg32 Tryz.sizeOf32 encR (fun _ => rfl) (fun x v hv => by simp [encR] at hv; rcases hv with rfl | rfl <;> rfl) (fun x y => Lib.compareInt x.1 y.1) swoLo
    60 #[] g 0 cap rs.toArray w eg (Tryz.cmpLays g 0 _ w) (holdsK_of_own hb h4) (Array.getElem?_eq_some_iff.1 hb).1 (by simp; omega)
  change Calls Tryz.prog 59 _ _ _ at hcon
  rw [List.size_toArray] at hcon
  refine hcon.mono ?_
  rintro e w' ⟨rfl, d', n, os, hperm, hsort, rfl⟩
  obtain ⟨hs1, _, hs2⟩ := hperm
  simp only [List.size_toArray] at hs1 hs2 hsort
  have hmem : ∀ r, r ∈ d'.toList ↔ r ∈ rs := fun r => by
    have := hs2.mem_iff (a := r)
    rw [Array.extract_eq_self_of_le (by omega), Array.extract_eq_self_of_le (by simp)] at this
    simpa using this
  have hl' : d'.toList.length = rs.length := by simpa using hs1
  have hgb := grownBy_sortedK (w := w) (g := g) (n := n) (os := os) d'
  refine ⟨rfl, d'.toList, hl', hmem, ?_, ?_, ?_, hgb⟩
  · rw [List.pairwise_iff_getElem]
    intro i j hi hj hij
    have := hsort i j (by omega) hij (by omega)
    rw [ltLo] at this
    have e1 : d'[i]! = d'.toList[i] := by rw [getElem!_pos d' i (by simpa using hi)]; simp
    have e2 : d'[j]! = d'.toList[j] := by rw [getElem!_pos d' j (by simpa using hj)]; simp
    rw [e1, e2] at this
    simpa using this
  · rw [hl']
    refine ⟨by rw [cellsR_length, hl'], .inr ⟨g, cap, _, rfl, hbg, heap_sortedK _ hb, h1, h2, by simp [putCells, h3], ?_⟩⟩
    rw [← hs1]; exact take_putCellsK cur d' (by omega)
  · exact (Below.refl base w).grown hgb hbase hge
end Go.Proofs.YtajooiainglpmaaGreat
namespace Go.Proofs.YtajooiainglpmaaGreat
open Go.RowKit

theorem cellsR_last (M : List Rg) (p : Rg) (u : Int) : (cellsR (M ++ [p])).set (M.length * 2 + 1) (.int .i64 u) = cellsR (M ++ [(p.1, u)]) := by
  rw [cellsR_append, cellsR_append, List.set_append_right _ _ (by rw [cellsR_length]; omega), cellsR_length, show M.length * 2 + 1 - M.length * 2 = 1 by omega]
  rfl
theorem mergeL_bounds (l : List Rg) (hok : ∀ r ∈ l, -200 ≤ r.1 ∧ r.1 ≤ r.2 ∧ r.2 ≤ 200) (hs : l.Pairwise fun a b => a.1 ≤ b.1) (k : Nat) : ∀ p ∈ mergeL (l.take k), -200 ≤ p.2 ∧ p.2 ≤ 200 := by
  obtain ⟨a, _⟩ := mergeL_ok (l.take k) (fun r hr => hok r (List.mem_of_mem_take hr)) (hs.sublist (List.take_sublist _ _))
  have : ∀ {L : List Rg} {lo : Int}, NormFrom lo L → ∀ p ∈ L, lo ≤ p.2 ∧ p.2 ≤ 200 := by
    intro L
    induction L with
    | nil => intro lo _ p hp; simp at hp
    | cons r L ih =>
      rintro lo ⟨h1, h2, h3, h4⟩ p hp
      rcases List.mem_cons.1 hp with rfl | hp
      · omega
      · have := ih h4 p hp; omega
  exact this a

theorem Tryz.ownsRow_drewN {w : World} {base : Nat} {e : TypeId} {size : Nat} {v : Value} {n : Nat} {xs : List Value} (h : w.ownsRow base e size v n xs) (q : Nat) : (w.drewN q).ownsRow base e size v n xs := h
/-- slices.SortFunc of no element -/
theorem sort_none (p : Option Addr) (cap : Nat) (w : World) :
    Calls Tryz.prog 59 #[.slice p 0 cap, .func (.func 60) #[] #[]] w fun e w' => e = .returned (.tuple #[]) ∧ w' = w :=
  AnyF.slices_SortFunc_none Tryz.sortRg p cap (.func (.func 60) #[] #[]) w
theorem sort_all (v : Value) (rs : List Rg) (w : World) (base : Nat) (hown : w.ownsRow base 32 2 v rs.length (cellsR rs)) (hbase : base ≤ w.heap.size) (hl : rs.length ≤ 4096) :
    Calls Tryz.prog 59 #[v, .func (.func 60) #[] #[]] w fun e w' => e = .returned (.tuple #[]) ∧
      ∃ l : List Rg, l.length = rs.length ∧ (∀ r, r ∈ l ↔ r ∈ rs) ∧ l.Pairwise (fun a b => a.1 ≤ b.1) ∧ w'.ownsRow base 32 2 v l.length (cellsR l) ∧ Below base w w' := by
  rcases Nat.eq_zero_or_pos rs.length with h0 | h0
  · obtain rfl := List.eq_nil_of_length_eq_zero h0
    obtain ⟨ao, cap, rfl, _⟩ := (SlAt.of_own hown).shape
    exact (sort_none ao cap w).mono fun e w' ⟨he, hw⟩ => by subst hw; exact ⟨he, [], rfl, fun r => Iff.rfl, List.Pairwise.nil, hown, Below.refl _ _⟩
  · exact (sort_own v rs w base hown hbase h0 hl).mono fun e w' ⟨he, l, h1, h2, h3, h4, h5, _⟩ => ⟨he, l, h1, h2, h3, h4, h5⟩

theorem own_ge {w : World} {B e size n : Nat} {v : Value} {xs : List Value} (h : w.ownsRow B e size v n xs) {b : Nat} (hb : v.ownBlock = some b) : B ≤ b := by
  rcases h.2 with ⟨rfl, _⟩ | ⟨g, cap, cur, rfl, hg, hgg, rest⟩
  · simp [Value.ownBlock] at hb
  · simp [Value.ownBlock] at hb
    subst hb
    exact hg
set_option maxRecDepth 100000 in
set_option maxHeartbeats 800000 in
theorem norm_any (v : Value) (rs : List Rg) (w : World) (h : RgAt w v rs) (hl : rs.length ≤ 4096) :
    Calls Tryz.prog 31 #[v] w fun e w' => ∃ v', e = .returned v' ∧ RgAt w' v' (norm rs) ∧ Below w.heap.size w w' ∧ ∀ b, v'.ownBlock = some b → w.heap.size ≤ b := by
  obtain ⟨i0, hi, hz0, hz1, hz2⟩ := info_parts Tryz.infoRg
  obtain ⟨ao, cap, rfl, _⟩ := h.shape
  have H := Lib.hid h
  clear h
  go_enter Tryz.func31, Tryz.ntmps31
  go_wp2
  go_loopw [3, 12] (fun o s wr => ∃ k : Nat, k ≤ rs.length ∧ s = .int .i64 k ∧ wr.ownsRow w.heap.size 32 2 o (clampL (rs.take k)).length (cellsR (clampL (rs.take k))) ∧ Below w.heap.size w wr) (fun _ s _ => rs.length - (intOf s).toNat)
  case atStart => exact ⟨0, by omega, rfl, World.ownsRow_nil _ _ _ _, Below.refl _ _⟩
  case round =>
    obtain ⟨k, hk, rfl, hown, hbel⟩ := hrel
    by_cases hlt : k < rs.length
    · obtain ⟨b, off, cap', he, hcap, hbs, hc⟩ := RgAt.at (H.out.below hbel) (by omega)
      simp only [Value.slice.injEq, true_and] at he
      obtain ⟨rfl, rfl⟩ := he
      obtain ⟨c1, c2⟩ := hc k hlt
      clear hc
      obtain ⟨r, hr⟩ : ∃ r, r = rs[k] := ⟨_, rfl⟩
      rw [← hr] at c1 c2
      have HR := Lib.hid hr
      clear hr
      have hbe : b ≠ wr.heap.size := by omega
      have hsnoc : clampL (rs.take (k + 1)) = clampL (rs.take k) ++ (if (clampR r).1 ≤ (clampR r).2 then [clampR r] else []) := by
        rw [List.take_add_one, List.getElem?_eq_getElem hlt, ← HR.out]; exact clampL_snoc _ _
      have hlen := clampL_len (rs.take k)
      rw [List.length_take] at hlen
      generalize hC : clampL (rs.take k) = C at hown hsnoc hlen
      have HS := Lib.hid hsnoc
      have HB := Lib.hid hbel
      clear hsnoc hC HR hbel
      have hle : w.heap.size ≤ wr.heap.size := HB.out.size
      go_wp2_with (at_builtin; refine wpList_append2 rfl (.tmp 29) (.tmp 31) 22 rfl w.heap.size 32 i0 (.agg #[.int .i64 0, .int .i64 0]) 16 Tryz.underlying22 hi hz0 hz1 hz2 rfl _ _ _ rfl (hown.alloc _) _ _ rfl (by simp) rfl rfl (by omega) (by simp; omega) ?_; intro v1 w1 o1 b1 n1)
      · have hc : (clampR r).1 ≤ (clampR r).2 := by assumption
        refine ⟨⟨k + 1, by omega, by go_num, ?_, (HB.out.alloc hle _).trans b1⟩, by simp [intOf]; omega⟩
        rw [HS.out, if_pos hc, List.length_append, cellsR_append]
        exact o1
      · have hc : ¬ (clampR r).1 ≤ (clampR r).2 := by show ¬ max r.1 (-200) ≤ min r.2 200; omega
        refine ⟨⟨k + 1, by omega, by go_num, ?_, HB.out.alloc hle _⟩, by simp [intOf]; omega⟩
        rw [HS.out, if_neg hc, List.append_nil]
        exact hown.alloc _
    · obtain rfl : k = rs.length := by omega
      rw [List.take_length] at hown
      have hlen := clampL_len rs
      generalize hC : clampL rs = C at hown hlen
      obtain ⟨ao2, cap2, rfl, _⟩ := (SlAt.of_own hown).shape
      have CS := sort_all _ C wr w.heap.size hown hbel.size (by omega)
      have HB := Lib.hid hbel
      have hmem := mergeL_norm rs
      rw [hC] at hmem
      have HM := Lib.hid hmem
      have HC := Lib.hid hC
      clear hC hbel hown hmem
      generalize C.length = n at CS hlen ⊢
      go_wp2_with (go_at_call 59; refine CS.mono ?_; rintro e W ⟨rfl, l, rfl, hlm, hlp, hown, hbel⟩; clear CS; have HN := Lib.hid (HM.out l hlm hlp); have HBD := Lib.hid (mergeL_bounds l (fun r hr => clampL_ok rs r (by rw [HC.out]; exact (hlm r).1 hr)) hlp); clear hlm hlp HM; have HW := Lib.hid (HB.out.trans hbel); clear hbel HB)
      have hl2 : l.length ≤ 4096 := by omega
      have HO := Lib.hid (RgAt.own hown)
      clear hown
      go_loopw [6, 38] (fun o s wr => ∃ k : Nat, k ≤ l.length ∧ s = .int .i64 k ∧ wr.ownsRow W.heap.size 32 2 o (mergeL (l.take k)).length (cellsR (mergeL (l.take k))) ∧ Below W.heap.size W wr) (fun _ s _ => l.length - (intOf s).toNat)
      case atStart => exact ⟨0, by omega, rfl, World.ownsRow_nil _ _ _ _, Below.refl _ _⟩
      case round =>
        obtain ⟨k, hk, rfl, hown, hbel⟩ := hrel
        by_cases hlt : k < l.length
        · obtain ⟨b, off, cap', he, hcap, hbs, hc⟩ := RgAt.at (HO.out.below hbel) (by omega)
          simp only [Value.slice.injEq, true_and] at he
          obtain ⟨rfl, rfl⟩ := he
          obtain ⟨c1, c2⟩ := hc k hlt
          clear hc
          have hbd := HBD.out k
          obtain ⟨r, hr⟩ : ∃ r, r = l[k] := ⟨_, rfl⟩
          rw [← hr] at c1 c2
          have hsnoc : mergeL (l.take (k + 1)) = pushR (mergeL (l.take k)) r := by
            rw [List.take_add_one, List.getElem?_eq_getElem hlt, ← hr]; exact mergeL_snoc _ _
          have hlen := mergeL_len (l.take k)
          rw [List.length_take] at hlen
          clear hr
          have hbe : b ≠ wr.heap.size := by omega
          generalize hM : mergeL (l.take k) = M at hown hsnoc hlen hbd
          clear hM
          have HS := Lib.hid hsnoc
          have HB := Lib.hid hbel
          clear hsnoc hbel
          have hle : W.heap.size ≤ wr.heap.size := HB.out.size
          rcases List.eq_nil_or_concat M with rfl | ⟨M', p, rfl⟩
          · obtain ⟨oa, oc, rfl, _⟩ := (SlAt.of_own hown).shape
            rw [show ([] : List Rg).length = 0 from rfl] at hown ⊢
            go_wp2
            go_quiet (fail)
            go_wp2_with (at_builtin; refine wpList_append2 rfl (.tmp 72) (.tmp 74) 22 rfl W.heap.size 32 i0 (.agg #[.int .i64 0, .int .i64 0]) 16 Tryz.underlying22 hi hz0 hz1 hz2 rfl _ _ _ rfl (hown.alloc _) _ _ rfl (by simp) rfl rfl (by simp) (by simp; omega) ?_; intro v1 w1 o1 b1 n1)
            refine ⟨⟨k + 1, by omega, by go_num, ?_, (below_drewN (HB.out.alloc hle _) _).trans b1⟩, by simp [intOf]; omega⟩
            rw [HS.out]
            exact o1
          · rw [List.concat_eq_append] at hown HS hlen hbd
            obtain ⟨g, oc, rfl, hgb, hcells⟩ := owns_pos hown (by simp)
            obtain ⟨d1, d2⟩ := cellsR_at (M' ++ [p]) M'.length (by simp)
            have g1 := hcells (M'.length * 2 + 1) (by simp; omega)
            rw [d2] at g1
            simp only [List.getElem_append_right, Nat.le_refl, Nat.sub_self, List.getElem_cons_zero] at g1
            have gf := hown.frozenAt (M'.length * 2 + 1)
            obtain ⟨hb1, hb2⟩ := hbd p (by simp)
            have hgs : g < wr.heap.size := World.block_lt_of_cell? wr _ g1
            have hge : g ≠ wr.heap.size := by omega
            have hML : (M' ++ [p]).length = M'.length + 1 := by simp
            rw [pushR_snoc] at HS
            rw [hML] at hown hlen ⊢
            obtain ⟨m, hm⟩ : ∃ m, m = M'.length := ⟨_, rfl⟩
            rw [← hm] at g1 gf hlen hown ⊢
            have Hm := Lib.hid hm
            clear hm hML d1 d2 hcells
            by_cases ht : r.1 ≤ p.2 + 1
            · have g0 : decide (((m + 1 : Nat) : Int) > 0) = true := by simp
              go_wp2
              have g2 : (wr.alloc (.cells #[.int .i64 r.1, .int .i64 r.2] 32)).cell? ⟨g, m * 2 + 1, none⟩ = some (.int .i64 p.2) := Lib.cell?_alloc_some _ g1
              go_quiet (fail)
              have gf2 : (wr.alloc (.cells #[.int .i64 r.1, .int .i64 r.2] 32)).frozen? ⟨g, m * 2 + 1, none⟩ = false := by rw [frozen?_alloc_cells]; exact gf
              go_wp2
              have q1 : ((wr.alloc (.cells #[.int .i64 r.1, .int .i64 r.2] 32)).drewN nq).cell? ⟨wr.heap.size, 1, none⟩ = some (.int .i64 r.2) := by simp
              have q2 : ((wr.alloc (.cells #[.int .i64 r.1, .int .i64 r.2] 32)).drewN nq).cell? ⟨g, m * 2 + 1, none⟩ = some (.int .i64 p.2) := g2
              have q3 : ((wr.alloc (.cells #[.int .i64 r.1, .int .i64 r.2] 32)).drewN nq).frozen? ⟨g, m * 2 + 1, none⟩ = false := gf2
              have q4 := Tryz.ownsRow_drewN (hown.alloc (.cells #[.int .i64 r.1, .int .i64 r.2] 32)) nq
              have q5 := Lib.hid (below_drewN (HB.out.alloc hle (.cells #[.int .i64 r.1, .int .i64 r.2] 32)) nq)
              generalize hW2 : (wr.alloc (.cells #[.int .i64 r.1, .int .i64 r.2] 32)).drewN nq = W2 at q1 q2 q3 q4 q5 ⊢
              clear g2 gf2 hW2 g1 gf hown c1 c2
              have Q4 := Lib.hid q4
              clear q4
              go_region
              go_wp2
              have s1 := Q4.out.stored (m * 2 + 1) (.int .i64 (max p.2 r.2))
              refine ⟨⟨k + 1, by omega, by go_num, ?_, below_drewN ((q5.out).setCell (p := ⟨g, m * 2 + 1, none⟩) hgb _) 1⟩, by simp [intOf]; omega⟩
              rw [HS.out, if_pos ht, ← cellsR_last, ← Hm.out, List.length_append, ← Hm.out]
              exact s1.1
            · have g0 : decide (((m + 1 : Nat) : Int) > 0) = true := by simp
              go_wp2
              have g2 : (wr.alloc (.cells #[.int .i64 r.1, .int .i64 r.2] 32)).cell? ⟨g, m * 2 + 1, none⟩ = some (.int .i64 p.2) := Lib.cell?_alloc_some _ g1
              go_quiet (fail)
              go_wp2_with (at_builtin; refine wpList_append2 rfl (.tmp 72) (.tmp 74) 22 rfl W.heap.size 32 i0 (.agg #[.int .i64 0, .int .i64 0]) 16 Tryz.underlying22 hi hz0 hz1 hz2 rfl _ _ _ rfl (hown.alloc _) _ _ rfl (by simp) rfl rfl (by omega) (by simp; omega) ?_; intro v1 w1 o1 b1 n1)
              refine ⟨⟨k + 1, by omega, by go_num, ?_, (below_drewN (HB.out.alloc hle _) _).trans b1⟩, by simp [intOf]; omega⟩
              rw [HS.out, if_neg (by omega), List.length_append, List.length_append, cellsR_append _ [r], ← Hm.out]
              exact o1
        · obtain rfl : k = l.length := by omega
          rw [List.take_length, HN.out] at hown
          go_wp2
          go_ret
          exact ⟨_, rfl, RgAt.own hown, HW.out.trans (hbel.mono HW.out.size), fun _ hb => Nat.le_trans HW.out.size (own_ge hown hb)⟩

/-- it returns the list L, in memory of its own or older, and turns nothing that was there -/
def RetR (L : List Rg) (w : World) (e : Ending) (w' : World) : Prop := ∃ ao cap, e = .returned (.slice ao L.length cap) ∧ RgAt w' (.slice ao L.length cap) L ∧ Below w.heap.size w w'
theorem retR_of {P : Program} {f : FuncId} {args : Array Value} {w : World} {L : List Rg} (h : Calls P f args w fun e w' => ∃ v', e = .returned v' ∧ RgAt w' v' L ∧ Below w.heap.size w w') : Calls P f args w (RetR L w) :=
  h.mono fun e w' ⟨v', he, hr, hb⟩ => by
    obtain ⟨ao, cap, rfl, _⟩ := hr.shape
    exact ⟨ao, cap, he, hr, hb⟩
/-- the list L, in new memory -/
def RetN (L : List Rg) (w : World) (e : Ending) (w' : World) : Prop := ∃ ao cap, e = .returned (.slice ao L.length cap) ∧ RgAt w' (.slice ao L.length cap) L ∧ Below w.heap.size w w' ∧ ∀ b, (Value.slice ao L.length cap).ownBlock = some b → w.heap.size ≤ b
theorem RetN.toR {L : List Rg} {w w' : World} {e : Ending} (h : RetN L w e w') : RetR L w e w' := by
  obtain ⟨ao, cap, h1, h2, h3, _⟩ := h
  exact ⟨ao, cap, h1, h2, h3⟩
theorem norm_n (v : Value) (rs : List Rg) (w : World) (h : RgAt w v rs) (hl : rs.length ≤ 4096) : Calls Tryz.prog 31 #[v] w (RetN (norm rs) w) :=
  (norm_any v rs w h hl).mono fun e w' ⟨v', he, hr, hb, hn⟩ => by
    obtain ⟨ao, cap, rfl, _⟩ := hr.shape
    exact ⟨ao, cap, he, hr, hb, hn⟩
theorem norm_c (v : Value) (rs : List Rg) (w : World) (h : RgAt w v rs) (hl : rs.length ≤ 4096) : Calls Tryz.prog 31 #[v] w (RetR (norm rs) w) := (norm_n v rs w h hl).mono fun _ _ h => h.toR
def slen : Value → Nat
  | .slice _ n _ => n
  | _ => 0
theorem slen_slice (a : Option Addr) (n c : Nat) : slen (.slice a n c) = n := rfl
end Go.Proofs.YtajooiainglpmaaGreat
