/-
  LISTS OF RANGES IN MEMORY.
-/
import Derived.Test.YtkhiogcdamjocaaRows
import Derived.Test.YtkhiogcdamjocaaReg
import Derived.Test.YtkhiogcdamjocaaSet
namespace Go.Proofs.Ytkhiogcdamjocaa
open Go.RowKit

def cellsR (rs : List Rg) : List Value := rs.flatMap fun r => [Value.int .i64 r.1, Value.int .i64 r.2]
theorem cellsR_length (rs : List Rg) : (cellsR rs).length = rs.length * 2 := by
  induction rs with
  | nil => rfl
  | cons r rs ih => simp [cellsR] at ih ⊢; omega
theorem cellsR_cons (r : Rg) (rs : List Rg) : cellsR (r :: rs) = .int .i64 r.1 :: .int .i64 r.2 :: cellsR rs := rfl
theorem cellsR_append (a b : List Rg) : cellsR (a ++ b) = cellsR a ++ cellsR b := by simp [cellsR]
theorem cellsR_at (rs : List Rg) : ∀ j, (hj : j < rs.length) → (cellsR rs)[j * 2]? = some (.int .i64 rs[j].1) ∧ (cellsR rs)[j * 2 + 1]? = some (.int .i64 rs[j].2) := by
  induction rs with
  | nil => intro j hj; simp at hj
  | cons r rs ih =>
    intro j hj
    cases j with
    | zero => exact ⟨rfl, rfl⟩
    | succ j =>
      have := ih j (by simpa using hj)
      rw [cellsR_cons, show (j + 1) * 2 = j * 2 + 1 + 1 by omega]
      exact this
theorem cellsR_drop (rs : List Rg) (m : Nat) : (cellsR rs).drop (m * 2) = cellsR (rs.drop m) := by
  induction rs generalizing m with
  | nil => simp [cellsR]
  | cons r rs ih =>
    cases m with
    | zero => rfl
    | succ m => rw [cellsR_cons, show (m + 1) * 2 = m * 2 + 1 + 1 by omega]; exact ih m
theorem cellsR_take (rs : List Rg) (m : Nat) : (cellsR rs).take (m * 2) = cellsR (rs.take m) := by
  induction rs generalizing m with
  | nil => simp [cellsR]
  | cons r rs ih =>
    cases m with
    | zero => simp [cellsR]
    | succ m =>
      rw [cellsR_cons, show (m + 1) * 2 = m * 2 + 1 + 1 by omega]
      show Value.int .i64 r.1 :: Value.int .i64 r.2 :: (cellsR rs).take (m * 2) = _
      rw [ih m]; rfl
theorem cellsR_one (rs : List Rg) : ∀ u ∈ cellsR rs, u.oneCell' = true := by
  intro u hu
  obtain ⟨r, _, h⟩ := List.mem_flatMap.1 hu
  simp at h
  rcases h with rfl | rfl <;> rfl

/-- v is the list of ranges rs -/
def RgAt (w : World) (v : Value) (rs : List Rg) : Prop := SlAt w 2 v rs.length (cellsR rs)
theorem RgAt.below {w w' : World} {v : Value} {rs : List Rg} (h : RgAt w v rs) (hb : Below w.heap.size w w') : RgAt w' v rs := SlAt.below h hb
theorem RgAt.nil {w : World} : RgAt w (.slice none 0 0) [] := SlAt.nil
theorem RgAt.own {w : World} {base : Nat} {e : TypeId} {v : Value} {rs : List Rg} (h : w.ownsRow base e 2 v rs.length (cellsR rs)) : RgAt w v rs := SlAt.of_own h
theorem RgAt.at {w : World} {v : Value} {rs : List Rg} (h : RgAt w v rs) (hp : 0 < rs.length) :
    ∃ b off cap, v = .slice (some ⟨b, off, none⟩) rs.length cap ∧ rs.length ≤ cap ∧ b < w.heap.size ∧
      ∀ j, (hj : j < rs.length) → w.cell? ⟨b, off + j * 2, none⟩ = some (.int .i64 rs[j].1) ∧ w.cell? ⟨b, off + j * 2 + 1, none⟩ = some (.int .i64 rs[j].2) := by
  obtain ⟨b, off, cap, rfl, h1, _, h2, h3⟩ := SlAt.pos h (by omega)
  refine ⟨b, off, cap, rfl, h1, h2, fun j hj => ?_⟩
  obtain ⟨a1, a2⟩ := cellsR_at rs j hj
  have b1 := h3 (j * 2) (by omega)
  have b2 := h3 (j * 2 + 1) (by omega)
  rw [a1] at b1
  rw [a2] at b2
  exact ⟨b1, b2⟩

theorem RgAt.empty {w : World} {b o : Nat} (u : Nat) : RgAt w (.slice (some ⟨b, o, none⟩) 0 0) [] :=
  ⟨rfl, _, _, rfl, Nat.le_refl _, by simp [maxLen], fun _ => rfl, fun h => by simp at h⟩
theorem RgAt.tail_lt {w : World} {b o c : Nat} {r : Rg} {xs : List Rg} (h : RgAt w (.slice (some ⟨b, o, none⟩) (xs.length + 1) c) (r :: xs)) : RgAt w (.slice (some ⟨b, o + 2, none⟩) xs.length (c - 1)) xs := by
  have h' : SlAt w 2 (.slice (some ⟨b, o, none⟩) (xs.length + 1) c) (xs.length + 1) (cellsR (r :: xs)) := h
  exact SlAt.drop (by decide) h' 1 (by omega) (by omega) rfl (fun _ b' o' he => by simp at he; rw [he.1, he.2]) (fun _ he => by cases he)
theorem Try.infoRg : (Try.prog.info? 84).map (fun i => (i.zero, i.size, i.bytes)) = some (some (.agg #[.int .i64 0, .int .i64 0]), 2, 16) := by kernel_rfl

/-- 'out = append(out, r)', r of two cells, laid in a new block just before -/
theorem wpList_append2g {P : Program} {w0 : World} {ops : Array Oper} {rest : List Oper} {o : Oper} {a : Act} {Q : Exit → Act → World → Prop} (hgd : o.guard = none) (s x : Operand) (t : TypeId)
    (ho : o.op = .call { callee := .builtin .append, args := #[s, x], argTypes := #[t, t] })
    (base : Nat) (e : TypeId) (i : TypeInfo) (z : Value) (bytes : Nat) (ht : P.underlying t = some (.slice e)) (hi : P.info? e = some i) (hz : i.zero = some z)
    (hsize : i.size = 2) (hby : i.bytes = bytes) (hzs : z.cells.size = 2)
    (v : Value) (n : Nat) (xs : List Value) (hs : a.eval s = v) (hown : w0.ownsRow base e 2 v n xs) {e' : TypeId}
    (u1 u2 : Value) {g : Nat} (hx : a.eval x = .slice (some ⟨g, 0, none⟩) 1 1) (hg : w0.heap.size = g) (h1 : u1.oneCell' = true) (h2 : u2.oneCell' = true)
    (hbytes : (n + 1) * bytes ≤ 140737488355328 ∧ n + 1 ≤ 140737488355328) (hbase : base ≤ w0.heap.size)
    (h : ∀ v' w', w'.ownsRow base e 2 v' (n + 1) (xs ++ [u1, u2]) → Below base w0 w' → (∀ b off u, v.ownBlock ≠ some b → w0.cell? ⟨b, off, none⟩ = some u → w'.cell? ⟨b, off, none⟩ = some u) → wpList P ops Q rest (a.put o.dst v') w') :
    wpList P ops Q (o :: rest) a (w0.alloc (.cells #[u1, u2] e')) := by
  subst hg
  refine wpList_append_own _ hgd s x t ho base e i z 2 bytes ht hi hz hsize hby hzs (by decide) v n xs hs (hown.alloc _) ⟨w0.heap.size, 0, none⟩ 1 1 [u1, u2] hx rfl ?_ ?_ ?_ hbytes.1 ?_ ?_
  · intro j y hj
    match j, hj with
    | 0, hj => simp at hj; subst hj; simp [Addr.add]
    | 1, hj => simp at hj; subst hj; simp [Addr.add]
  · intro y hy; simp at hy; rcases hy with rfl | rfl <;> assumption
  · unfold maxLen; omega
  · simp; omega
  · intro v' w' r1 r2 r3
    refine h v' w' r1 (below_grown hbase r2 (ownBlock_ge hown)) (fun b off u hne hc => ?_)
    have hlt := World.block_lt_of_cell? w0 _ hc
    obtain ⟨_, _, _, _, hk⟩ := r2
    have hc2 := Lib.cell?_alloc_some (.cells #[u1, u2] e') hc
    rw [← hc2]
    exact World.cell?_of_block (hk b (by simp at hlt ⊢; omega) (fun he => hne he.symm))
theorem wpList_append2 {P : Program} {w0 : World} {ops : Array Oper} {rest : List Oper} {o : Oper} {a : Act} {Q : Exit → Act → World → Prop} (hgd : o.guard = none) (s x : Operand) (t : TypeId)
    (ho : o.op = .call { callee := .builtin .append, args := #[s, x], argTypes := #[t, t] })
    (base : Nat) (e : TypeId) (i : TypeInfo) (z : Value) (bytes : Nat) (ht : P.underlying t = some (.slice e)) (hi : P.info? e = some i) (hz : i.zero = some z)
    (hsize : i.size = 2) (hby : i.bytes = bytes) (hzs : z.cells.size = 2)
    (v : Value) (n : Nat) (xs : List Value) (hs : a.eval s = v) (hown : w0.ownsRow base e 2 v n xs) {e' : TypeId}
    (u1 u2 : Value) {g : Nat} (hx : a.eval x = .slice (some ⟨g, 0, none⟩) 1 1) (hg : w0.heap.size = g) (h1 : u1.oneCell' = true) (h2 : u2.oneCell' = true)
    (hbytes : (n + 1) * bytes ≤ 140737488355328 ∧ n + 1 ≤ 140737488355328) (hbase : base ≤ w0.heap.size)
    (h : ∀ v' w', w'.ownsRow base e 2 v' (n + 1) (xs ++ [u1, u2]) → Below base w0 w' → True → wpList P ops Q rest (a.put o.dst v') w') :
    wpList P ops Q (o :: rest) a (w0.alloc (.cells #[u1, u2] e')) :=
  wpList_append2g hgd s x t ho base e i z bytes ht hi hz hsize hby hzs v n xs hs hown u1 u2 hx hg h1 h2 hbytes hbase (fun v' w' a b _ => h v' w' a b trivial)
end Go.Proofs.Ytkhiogcdamjocaa
