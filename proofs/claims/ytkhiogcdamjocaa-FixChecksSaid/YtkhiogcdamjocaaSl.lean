/-
  SLICES AS LISTS: what a slice value reads as, wherever it lies; kept by whatever only makes memory. Over any program.
-/
import Derived.Test.YtkhiogcdamjocaaLib
import Derived.ProofKit
import Derived.Deep.Slices
import Derived.Lib.LaidTab
import Derived.Laws.AppendOwnNone
namespace Go.Proofs.Ytkhiogcdamjocaa
open Go.RowKit

/-- v is a slice of n elements of k cells each; its cells are xs -/
def SlAt (w : World) (k : Nat) (v : Value) (n : Nat) (xs : List Value) : Prop :=
  xs.length = n * k ∧ ∃ ao cap, v = .slice ao n cap ∧ n ≤ cap ∧ cap ≤ maxLen ∧ (ao = none → cap = 0) ∧ (0 < n * k → ∃ b off, ao = some ⟨b, off, none⟩ ∧ b < w.heap.size ∧ ∀ j, j < n * k → w.cell? ⟨b, off + j, none⟩ = xs[j]?)

theorem SlAt.len {w : World} {k : Nat} {v : Value} {n : Nat} {xs : List Value} (h : SlAt w k v n xs) : xs.length = n * k := h.1

theorem SlAt.kept {w w' : World} {k : Nat} {v : Value} {n : Nat} {xs : List Value} (h : SlAt w k v n xs) (hs : w.heap.size ≤ w'.heap.size) (hb : ∀ i, i < w.heap.size → w'.heap[i]? = w.heap[i]?) : SlAt w' k v n xs := by
  obtain ⟨h1, ao, cap, rfl, h2, h3, h5, h4⟩ := h
  refine ⟨h1, ao, cap, rfl, h2, h3, h5, fun hp => ?_⟩
  obtain ⟨b, off, rfl, hlt, hc⟩ := h4 hp
  refine ⟨b, off, rfl, by omega, fun j hj => ?_⟩
  rw [← hc j hj]
  exact World.cell?_of_block (hb b hlt)

theorem SlAt.below {w w' : World} {k : Nat} {v : Value} {n : Nat} {xs : List Value} (h : SlAt w k v n xs) (hb : Below w.heap.size w w') : SlAt w' k v n xs := h.kept hb.size hb.block

theorem SlAt.alloc {w : World} {k : Nat} {v : Value} {n : Nat} {xs : List Value} (h : SlAt w k v n xs) (o : Obj) : SlAt (w.alloc o) k v n xs := h.below ((Below.refl _ _).alloc (Nat.le_refl _) o)
theorem SlAt.drew {w : World} {k : Nat} {v : Value} {n : Nat} {xs : List Value} (h : SlAt w k v n xs) : SlAt w.drew k v n xs := h
theorem SlAt.drewN {w : World} {k : Nat} {v : Value} {n : Nat} {xs : List Value} (h : SlAt w k v n xs) (q : Nat) : SlAt (w.drewN q) k v n xs := h

/-- a block that stands as it did -/
theorem SlAt.setCell {w : World} {k : Nat} {v : Value} {n : Nat} {xs : List Value} (h : SlAt w k v n xs) {base : Nat} {a : Addr} (hv : ∀ b, v.ownBlock = some b → b < base) (ha : base ≤ a.block) (u : Value) : SlAt (w.setCell a u) k v n xs := by
  obtain ⟨h1, ao, cap, rfl, h2, h3, h5, h4⟩ := h
  refine ⟨h1, ao, cap, rfl, h2, h3, h5, fun hp => ?_⟩
  obtain ⟨b, off, rfl, hlt, hc⟩ := h4 hp
  refine ⟨b, off, rfl, by simpa [World.setCell] using hlt, fun j hj => ?_⟩
  rw [← hc j hj]
  have := hv b rfl
  exact World.cell?_of_block (Below.heap_setCell _ _ _ _ (by simp; omega))

theorem SlAt.nil {w : World} {k : Nat} : SlAt w k (.slice none 0 0) 0 [] := ⟨by simp, none, 0, rfl, Nat.le_refl _, by simp [maxLen], fun _ => rfl, fun h => by simp at h⟩

theorem SlAt.of_own {w : World} {base : Nat} {e : TypeId} {k : Nat} {v : Value} {n : Nat} {xs : List Value} (h : w.ownsRow base e k v n xs) : SlAt w k v n xs := by
  refine ⟨h.1, ?_⟩
  have h0 := h
  rcases h.2 with ⟨rfl, rfl⟩ | ⟨g, cap, cur, rfl, hb, hg, hn, hcap, _⟩
  · exact ⟨none, 0, rfl, Nat.le_refl _, by simp [maxLen], fun _ => rfl, fun h => by simp at h⟩
  · refine ⟨some ⟨g, 0, none⟩, cap, rfl, hn, hcap, (fun h => by cases h), fun _ => ⟨g, 0, rfl, (Array.getElem?_eq_some_iff.1 hg).1, fun j hj => ?_⟩⟩
    rw [Nat.zero_add]; exact h0.cellAt j hj

/-- a slice that is not empty: where it lies -/
theorem SlAt.pos {w : World} {k : Nat} {v : Value} {n : Nat} {xs : List Value} (h : SlAt w k v n xs) (hn : 0 < n * k) :
    ∃ b off cap, v = .slice (some ⟨b, off, none⟩) n cap ∧ n ≤ cap ∧ cap ≤ maxLen ∧ b < w.heap.size ∧ ∀ j, j < n * k → w.cell? ⟨b, off + j, none⟩ = xs[j]? := by
  obtain ⟨_, ao, cap, rfl, h2, h3, _, h4⟩ := h
  obtain ⟨b, off, rfl, hlt, hc⟩ := h4 hn
  exact ⟨b, off, cap, rfl, h2, h3, hlt, hc⟩
theorem SlAt.shape {w : World} {k : Nat} {v : Value} {n : Nat} {xs : List Value} (h : SlAt w k v n xs) : ∃ ao cap, v = .slice ao n cap ∧ n ≤ cap ∧ cap ≤ maxLen := by
  obtain ⟨_, ao, cap, rfl, h2, h3, _⟩ := h
  exact ⟨ao, cap, rfl, h2, h3⟩

theorem SlAt.none_cap {w : World} {k : Nat} {ao : Option Addr} {n cap : Nat} {xs : List Value} (h : SlAt w k (.slice ao n cap) n xs) : ao = none → cap = 0 := by
  obtain ⟨h1, ao0, cap0, he, h2, h3, h5, h4⟩ := h
  simp only [Value.slice.injEq, true_and] at he
  obtain ⟨rfl, rfl⟩ := he
  exact h5

/-- the first m elements cut off -/
theorem SlAt.drop {w : World} {k : Nat} (hkp : 0 < k) {ao : Option Addr} {n cap : Nat} {xs : List Value} (h : SlAt w k (.slice ao n cap) n xs) (m : Nat) (hm : m ≤ n) {ao' : Option Addr} {n' c' : Nat} (hn' : n' = n - m) (hc' : c' = cap - m)
    (hao : m < cap → ∀ b off, ao = some ⟨b, off, none⟩ → ao' = some ⟨b, off + m * k, none⟩) (hspot : m < cap → ao' = none → cap - m = 0) : SlAt w k (.slice ao' n' c') n' (xs.drop (m * k)) := by
  subst hn' hc'
  obtain ⟨h1, ao0, cap0, he, h2, h3, h5, h4⟩ := h
  simp only [Value.slice.injEq, true_and] at he
  obtain ⟨rfl, rfl⟩ := he
  have hmk : m * k ≤ n * k := Nat.mul_le_mul_right _ hm
  have hsub : (n - m) * k = n * k - m * k := Nat.sub_mul ..
  refine ⟨by rw [List.length_drop, h1, hsub], ao', cap - m, rfl, by omega, by omega, fun hno => ?_, fun hp => ?_⟩
  · rcases Nat.lt_or_ge m cap with hc1 | hc1
    · exact hspot hc1 hno
    · omega
  · have hn : 0 < n * k := by omega
    obtain ⟨b, off, rfl, hlt, hc⟩ := h4 hn
    have hmn : m < n := by
      rcases Nat.lt_or_ge m n with h | h
      · exact h
      · rw [show n - m = 0 by omega] at hp; simp at hp
    refine ⟨b, off + m * k, hao (by omega) b off rfl, hlt, fun j hj => ?_⟩
    rw [List.getElem?_drop, ← hc (m * k + j) (by omega), Nat.add_assoc]

/-- the beginning of a slice -/
theorem SlAt.take {w : World} {k : Nat} {ao : Option Addr} {n cap : Nat} {xs : List Value} (h : SlAt w k (.slice ao n cap) n xs) (m c : Nat) (hm : m ≤ n) (hc : m ≤ c) (hc2 : c ≤ cap) : SlAt w k (.slice ao m c) m (xs.take (m * k)) := by
  obtain ⟨h1, ao0, cap0, he, h2, h3, h5, h4⟩ := h
  simp only [Value.slice.injEq, true_and] at he
  obtain ⟨rfl, rfl⟩ := he
  have hmk : m * k ≤ n * k := Nat.mul_le_mul_right _ hm
  refine ⟨by rw [List.length_take, h1]; omega, ao, c, rfl, hc, by omega, (fun hno => by have := h5 hno; omega), fun hp => ?_⟩
  obtain ⟨b, off, rfl, hlt, hcc⟩ := h4 (by omega)
  refine ⟨b, off, rfl, hlt, fun j hj => ?_⟩
  rw [List.getElem?_take, if_pos hj, hcc j (by omega)]

/-- 'append(out, s...)', out the call's own, s whatever slice -/
theorem wpList_append_sl {P : Program} {w0 : World} {ops : Array Oper} {rest : List Oper} {o : Oper} {a : Act} {Q : Exit → Act → World → Prop} (hgd : o.guard = none) (s x : Operand) (t : TypeId)
    (ho : o.op = .call { callee := .builtin .append, args := #[s, x], argTypes := #[t, t] })
    (base : Nat) (e : TypeId) (i : TypeInfo) (z : Value) (size bytes : Nat) (ht : P.underlying t = some (.slice e)) (hi : P.info? e = some i) (hz : i.zero = some z)
    (hsize : i.size = size) (hby : i.bytes = bytes) (hzs : z.cells.size = size) (hsz : 0 < size)
    (v : Value) (n : Nat) (xs : List Value) (hs : a.eval s = v) (hown : w0.ownsRow base e size v n xs)
    (vx : Value) (m : Nat) (ys : List Value) (hx : a.eval x = vx) (hsl : SlAt w0 size vx m ys) (h1 : ∀ u ∈ ys, u.oneCell' = true)
    (hbytes : (n + m) * bytes ≤ 140737488355328 ∧ n + m ≤ 140737488355328) (hbase : base ≤ w0.heap.size)
    (h : ∀ v' w', w'.ownsRow base e size v' (n + m) (xs ++ ys) → Below base w0 w' → w0.grownBy w' v.ownBlock → wpList P ops Q rest (a.put o.dst v') w') :
    wpList P ops Q (o :: rest) a w0 := by
  obtain ⟨hl, ao, cap, rfl, h2, h3, h5, h4⟩ := hsl
  cases ao with
  | none =>
    obtain rfl := h5 rfl
    obtain rfl : m = 0 := by omega
    obtain rfl : ys = [] := List.eq_nil_of_length_eq_zero (by omega)
    refine wpList_append_own_none hgd s x t ho base e i size ht hi v n xs hs hown hx ?_
    refine h v w0 (by simpa using hown) (Below.refl _ _) (World.grownBy.refl _ _)
  | some ad =>
    refine wpList_append_own w0 hgd s x t ho base e i z size bytes ht hi hz hsize hby hzs hsz v n xs hs hown ad m cap ys hx hl (fun j u hj => ?_) h1 (by unfold maxLen; omega) hbytes.1 hbase (fun v' w' r1 r2 _ => h v' w' r1 ?_ r2)
    · have hj' : j < m * size := by rw [← hl]; exact (List.getElem?_eq_some_iff.1 hj).1
      obtain ⟨b, off, he, _, hc⟩ := h4 (by omega)
      injection he with he; subst he
      rw [Go.WideShapes.add_plain, hc j hj', hj]
    · exact (Below.refl base w0).grown r2 hbase (ownBlock_ge hown)

/-! ### What is read in -/
section
variable {H : Type} {enc : TypeId × Value → H} {P : Program} {w : World} {spare : Nat → Bool} {held : Bool}

theorem cells?_eq {base : Nat} {a : Addr} {n : Nat} {cs : List Value} (h : w.cells? base a n = some cs) : cs.length = n ∧ ∀ i, i < n → w.cell? (a.add i) = cs[i]? := by
  unfold World.cells? at h
  split at h
  · have hl : cs.length = n := by simpa using Lib.mapM_length h
    refine ⟨hl, fun i hi => ?_⟩
    obtain ⟨b, hb, hf⟩ := Lib.mapM_at h i i (by simp [hi])
    rw [hb, hf]
  · cases h

/-- a slice that comes in: its cells, and each element's reading -/
theorem open_sl {t e : TypeId} {k : Nat} {fuel : Nat} {v : Value} {d : DataW H} {ps : List MemPlace} (ht : P.underlying t = some (.slice e)) (hk : P.cellsOf e = k)
    (h : DataW.trod enc P w 0 spare held fuel t [v] = some (d, ps)) :
    ∃ n xs, SlAt w k v n xs ∧ (∀ i, i < n → ∃ m y, DataW.trod enc P w 0 spare held m e ((xs.drop (i * k)).take k) = some y) := by
  rcases Deep.open_slice ht h with ⟨h0, _⟩ | ⟨a, len, cap, m, q, D, Pl, hcs, _, hl, hm, hmm, _, hx⟩
  · simp only [List.cons.injEq, and_true] at h0; subst h0
    exact ⟨0, [], SlAt.nil, fun i hi => by omega⟩
  · simp only [List.cons.injEq, and_true] at hcs; subst hcs
    rw [hk] at hx
    have hlm : len ≤ m := by rw [hmm]; split <;> omega
    have hch : ∀ i, i < len → ∃ cs : List Value, cs.length = k ∧ (∀ j, j < k → w.cell? (a.add (i * k + j)) = cs[j]?) ∧ DataW.trod enc P w 0 spare held q e cs = some (D i, Pl i) := fun i hi => by
      obtain ⟨cs, h1, h2⟩ := hx i (by omega)
      obtain ⟨h3, h4⟩ := cells?_eq h1
      refine ⟨cs, h3, fun j hj => ?_, h2⟩
      rw [← h4 j hj, Deep.add_add]
    obtain ⟨C, hC⟩ := Deep.choose_lt hch
    refine ⟨len, (List.range len).flatMap C, ?_, fun i hi => ⟨q, (D i, Pl i), ?_⟩⟩
    · have hlen : ∀ l, l ≤ len → ((List.range l).flatMap C).length = l * k := by
        intro l
        induction l with
        | zero => intro; simp
        | succ l ih => intro h; rw [List.range_succ, List.flatMap_append, List.length_append, ih (by omega)]; simp [(hC l (by omega)).1, Nat.add_mul]
      have hget : ∀ l, l ≤ len → ∀ j, j < l * k → w.cell? (a.add j) = ((List.range l).flatMap C)[j]? := by
        intro l
        induction l with
        | zero => intro _ j hj; simp at hj
        | succ l ih =>
          intro h j hj
          rw [List.range_succ, List.flatMap_append]
          by_cases hlt : j < l * k
          · rw [List.getElem?_append_left (by rw [hlen l (by omega)]; exact hlt)]
            exact ih (by omega) j hlt
          · rw [List.getElem?_append_right (by rw [hlen l (by omega)]; omega), hlen l (by omega)]
            have := (hC l (by omega)).2.1 (j - l * k) (by rw [Nat.add_mul] at hj; omega)
            rw [show l * k + (j - l * k) = j by omega] at this
            simpa using this
      refine ⟨hlen len (Nat.le_refl _), some a, cap, rfl, hl, hm, (fun h => by cases h), fun hp => ?_⟩
      obtain ⟨b, off, spot⟩ := a
      have h0 : ∃ u, w.cell? ((⟨b, off, spot⟩ : Addr).add 0) = some u := by
        rw [hget len (Nat.le_refl _) 0 hp]
        exact ⟨_, List.getElem?_eq_getElem (by rw [hlen len (Nat.le_refl _)]; exact hp)⟩
      obtain ⟨u, hu⟩ := h0
      have hspot : spot = none := by simpa [Addr.add] using World.cell?_spot hu
      subst hspot
      refine ⟨b, off, rfl, ?_, fun j hj => ?_⟩
      · rw [Go.WideShapes.add_plain] at hu
        exact World.block_lt_of_cell? w _ hu
      · rw [← Go.WideShapes.add_plain]; exact hget len (Nat.le_refl _) j hj
    · have hseg : ∀ l, l ≤ len → ∀ i, i < l → ((((List.range l).flatMap C).drop (i * k)).take k) = C i := by
        intro l
        induction l with
        | zero => intro _ i hi; omega
        | succ l ih =>
          intro h i hi
          have hlenl : ((List.range l).flatMap C).length = l * k := by
            clear ih hi i
            induction l with
            | zero => simp
            | succ l ih => rw [List.range_succ, List.flatMap_append, List.length_append, ih (by omega)]; simp [(hC l (by omega)).1, Nat.add_mul]
          rw [List.range_succ, List.flatMap_append]
          by_cases hil : i = l
          · subst hil
            rw [List.drop_append_of_le_length (by omega), List.drop_eq_nil_of_le (by omega)]
            simp [List.take_of_length_le, (hC i (by omega)).1]
          · have hik : i * k + k ≤ l * k := by
              have : (i + 1) * k ≤ l * k := Nat.mul_le_mul_right _ (by omega)
              rw [Nat.add_mul] at this; omega
            rw [List.drop_append_of_le_length (by omega), List.take_append_of_le_length (by rw [List.length_drop]; omega)]
            exact ih (by omega) i (by omega)
      rw [hseg len (Nat.le_refl _) i hi]
      exact (hC i hi).2.2
end
end Go.Proofs.Ytkhiogcdamjocaa
