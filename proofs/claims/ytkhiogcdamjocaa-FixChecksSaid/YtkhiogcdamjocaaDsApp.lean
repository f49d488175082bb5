/-
  LISTS OF SETS THAT GROW BY append: none of their sets lies in the list's own block.
-/
import Derived.Test.YtkhiogcdamjocaaDs
import Derived.Test.YtkhiogcdamjocaaBoxL
import Derived.Test.YtkhiogcdamjocaaRefA
import Derived.Deep.AppendLies
namespace Go.Proofs.Ytkhiogcdamjocaa
open Go.RowKit

/-- append of one cell, telling which blocks stay -/
theorem wpList_append1L {P : Program} {ops : Array Oper} {rest : List Oper} {o : Oper} {a : Act} {w : World} {Q : Exit → Act → World → Prop} (hgd : o.guard = none) (s x : Operand) (t : TypeId)
    (ho : o.op = .call { callee := .builtin .append, args := #[s, x], argTypes := #[t, t] })
    (base : Nat) (e : TypeId) (i : TypeInfo) (z : Value) (bytes : Nat) (ht : P.underlying t = some (.slice e)) (hi : P.info? e = some i) (hz : i.zero = some z)
    (hsize : i.size = 1) (hby : i.bytes = bytes) (hzs : z.cells.size = 1)
    (v : Value) (n : Nat) (xs : List Value) (hs : a.eval s = v) (hown : w.ownsRow base e 1 v n xs) {e' : TypeId}
    (u1 : Value) (hx : a.eval x = .slice (some ⟨w.heap.size, 0, none⟩) 1 1) (h1 : u1.oneCell' = true)
    (hbytes : (n + 1) * bytes ≤ 140737488355328 ∧ n + 1 ≤ 140737488355328) (hbase : base ≤ w.heap.size)
    (h : ∀ g cap w', w'.ownsRow base e 1 (.slice (some ⟨g, 0, none⟩) (n + 1) cap) (n + 1) (xs ++ [u1]) → Below base w w' → KeepsBut w w' v → (v.ownBlock = some g ∨ w.heap.size ≤ g) → wpList P ops Q rest (a.put o.dst (.slice (some ⟨g, 0, none⟩) (n + 1) cap)) w') :
    wpList P ops Q (o :: rest) a (w.alloc (.cells #[u1] e')) := by
  refine wpList_append_lies _ hgd s x t ho base e i z 1 bytes ht hi hz hsize hby hzs (by decide) v n xs hs (hown.alloc _) ⟨w.heap.size, 0, none⟩ 1 1 [u1] hx rfl ?_ ?_ (by decide) ?_ hbytes.1 (by simp; omega) _ rfl ?_
  · intro j y hj
    match j, hj with
    | 0, hj => simp at hj; subst hj; simp [Addr.add]
  · intro y hy; simp at hy; subst hy; exact h1
  · unfold maxLen; omega
  · intro g cap w' r1 r2 r3 _
    refine h g cap w' r1 (below_grown hbase r2 (ownBlock_ge hown)) (fun b hb hne => ?_) ?_
    · rw [r2.block b (by simp; omega) (fun he => hne he.symm)]
      exact Below.heap_alloc w _ b hb
    · rcases r3 with h3 | h3
      · exact .inl h3
      · right; rw [h3]; simp

theorem RgAt.keptBut {w w' : World} {v u : Value} {d : List Rg} (h : RgAt w u d) (hk : KeepsBut w w' v) (ha : d ≠ [] → Apart u v) : RgAt w' u d := by
  obtain ⟨h1, ao, cap, rfl, h2, h3, h5, h4⟩ := h
  refine ⟨h1, ao, cap, rfl, h2, h3, h5, fun hp => ?_⟩
  obtain ⟨b, off, rfl, hlt, hc⟩ := h4 hp
  have hne : d ≠ [] := by rintro rfl; simp at hp
  have e := hk b hlt (ha hne b rfl)
  refine ⟨b, off, rfl, ?_, fun j hj => ?_⟩
  · have h0 := hc 0 hp
    have hl : (cellsR d).length = d.length * 2 := h1
    rw [List.getElem?_eq_getElem (by omega)] at h0
    have := World.cell?_of_block (a := ⟨b, off + 0, none⟩) e
    rw [h0] at this
    exact World.block_lt_of_cell? w' _ this
  · rw [← hc j hj]; exact World.cell?_of_block e
theorem RgAt.blk {w : World} {u : Value} {d : List Rg} (h : RgAt w u d) (hne : d ≠ []) : ∀ b, u.ownBlock = some b → b < w.heap.size := fun b hb => by
  obtain ⟨h1, ao, cap, rfl, h2, h3, h5, h4⟩ := h
  have hp : 0 < d.length * 2 := by have := List.length_pos_iff.2 hne; omega
  obtain ⟨b', off, rfl, hlt, hc⟩ := h4 hp
  simp [Value.ownBlock] at hb; omega

def DsApp (w : World) (base : Nat) (v : Value) (ds : Ds) (us : List Value) : Prop :=
  us.length = ds.length ∧ w.ownsRow base 46 1 v ds.length us ∧ ∀ j, (hj : j < ds.length) → ∃ u, us[j]? = some u ∧ RgAt w u ds[j] ∧ (ds[j] ≠ [] → Apart u v)
theorem DsApp.own {w : World} {base : Nat} {v : Value} {ds : Ds} {us : List Value} (h : DsApp w base v ds us) : DsOwn w base v ds :=
  ⟨us, h.1, h.2.1, fun j hj => by obtain ⟨u, a, b, _⟩ := h.2.2 j hj; exact ⟨u, a, b⟩⟩
theorem DsApp.below {w w' : World} {base : Nat} {v : Value} {ds : Ds} {us : List Value} (h : DsApp w base v ds us) (hb : Below w.heap.size w w') : DsApp w' base v ds us :=
  ⟨h.1, own_below h.2.1 hb, fun j hj => by obtain ⟨u, a, b, c⟩ := h.2.2 j hj; exact ⟨u, a, b.below hb, c⟩⟩
theorem DsApp.nil {w : World} {base : Nat} {v : Value} (h : w.ownsRow base 46 1 v 0 []) : DsApp w base v [] [] := ⟨rfl, h, fun j hj => by simp at hj⟩
theorem DsApp.push {w w' : World} {base : Nat} {v : Value} {ds : Ds} {us : List Value} (h : DsApp w base v ds us) {u : Value} {d : List Rg} (hu : RgAt w u d) (ha : d ≠ [] → Apart u v) {g cap : Nat}
    (ho : w'.ownsRow base 46 1 (.slice (some ⟨g, 0, none⟩) (ds.length + 1) cap) (ds.length + 1) (us ++ [u])) (hk : KeepsBut w w' v) (hg : v.ownBlock = some g ∨ w.heap.size ≤ g) :
    DsApp w' base (.slice (some ⟨g, 0, none⟩) (ds.length + 1) cap) (ds ++ [d]) (us ++ [u]) := by
  have hap : ∀ {x : Value} {r : List Rg}, RgAt w x r → (r ≠ [] → Apart x v) → (r ≠ [] → Apart x (.slice (some ⟨g, 0, none⟩) (ds.length + 1) cap)) := fun {x r} hx h0 hne b hb he => by
    have hb' : g = b := by simpa [Value.ownBlock] using he
    subst hb'
    rcases hg with h1 | h1
    · exact h0 hne g hb h1
    · have := hx.blk hne g hb; omega
  refine ⟨by simp [h.1], by rw [List.length_append]; exact ho, fun j hj => ?_⟩
  rw [List.length_append, List.length_singleton] at hj
  by_cases hjl : j < ds.length
  · obtain ⟨x, a, b, c⟩ := h.2.2 j hjl
    refine ⟨x, by rw [List.getElem?_append_left (by rw [h.1]; exact hjl)]; exact a, ?_, ?_⟩
    · rw [List.getElem_append_left hjl]; exact b.keptBut hk c
    · rw [List.getElem_append_left hjl]; exact hap b c
  · obtain rfl : j = ds.length := by omega
    refine ⟨u, by rw [List.getElem?_append_right (by rw [h.1]; exact Nat.le_refl _), h.1]; simp, ?_, ?_⟩
    · rw [List.getElem_append_right (Nat.le_refl _)]; simp; exact hu.keptBut hk ha
    · rw [List.getElem_append_right (Nat.le_refl _)]; simp; exact hap hu ha
/-- what a call has made new is none of a row's that was there -/
theorem apart_made {w0 : World} {base e size n : Nat} {v u : Value} {xs : List Value} (h : w0.ownsRow base e size v n xs) (hu : ∀ b, u.ownBlock = some b → w0.heap.size ≤ b) : Apart u v := fun b hb he => by
  have := hu b hb
  have := (h.lt b he).2
  omega
/-- what lies below a row's base is none of it -/
theorem apart_low {w0 : World} {base e size n : Nat} {v u : Value} {xs : List Value} (h : w0.ownsRow base e size v n xs) (hu : ∀ b, u.ownBlock = some b → b < base) : Apart u v := fun b hb he => by
  have := hu b hb
  have := (h.lt b he).1
  omega
end Go.Proofs.Ytkhiogcdamjocaa
