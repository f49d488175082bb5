/-
  LISTS OF SETS IN MEMORY: slices of slices of ranges; kept by whatever only makes memory; an own one, whose places are turned.
  LISTS OF SETS THAT GROW BY append: none of their sets lies in the list's own block.
  lin.Check and coneyref15.Check, walked: both tell the same number.
  lin.part, lin.parts, lin.Sums, lin.Says, walked.
  A sum's terms in memory; bounds of their ends.
-/
import Derived.Test.YtajooiainglpmaaGreatKdom2
import Derived.Test.YtajooiainglpmaaGreatKlin1
import Derived.Test.YtajooiainglpmaaGreatKlib1
import Derived.Test.YtajooiainglpmaaGreatKdom3
import Derived.Deep.AppendLies
import Derived.Test.YtajooiainglpmaaGreatRows
import Derived.Test.YtajooiainglpmaaGreatKdom4
import Derived.Deep.RegionHeld3
import Derived.Deep.DeepCutAuto
import Derived.Handy
import Derived.Laws.ResultCell
namespace Go.Proofs.YtajooiainglpmaaGreat
open Go.RowKit

theorem own_below {w w' : World} {B e size n : Nat} {v : Value} {xs : List Value} (h : w.ownsRow B e size v n xs) (hb : Below w.heap.size w w') : w'.ownsRow B e size v n xs := by
  refine ⟨h.1, ?_⟩
  rcases h.2 with hn | ⟨g, cap, cur, rfl, hg, hgg, rest⟩
  · exact .inl hn
  · exact .inr ⟨g, cap, cur, rfl, hg, by rw [hb.block g (Array.getElem?_eq_some_iff.1 hgg).1]; exact hgg, rest⟩
def DsAt (w : World) (v : Value) (ds : Ds) : Prop :=
  ∃ us : List Value, us.length = ds.length ∧ SlAt w 1 v ds.length us ∧ ∀ j, (hj : j < ds.length) → ∃ u, us[j]? = some u ∧ RgAt w u ds[j]
theorem DsAt.below {w w' : World} {v : Value} {ds : Ds} (h : DsAt w v ds) (hb : Below w.heap.size w w') : DsAt w' v ds := by
  obtain ⟨us, h1, h2, h3⟩ := h
  exact ⟨us, h1, h2.below hb, fun j hj => by obtain ⟨u, a, b⟩ := h3 j hj; exact ⟨u, a, b.below hb⟩⟩
theorem DsAt.drewN {w : World} {v : Value} {ds : Ds} (h : DsAt w v ds) (q : Nat) : DsAt (w.drewN q) v ds := h
theorem DsAt.alloc {w : World} {v : Value} {ds : Ds} (h : DsAt w v ds) (o : Obj) : DsAt (w.alloc o) v ds := h.below ((Below.refl _ _).alloc (Nat.le_refl _) o)
theorem DsAt.shape {w : World} {v : Value} {ds : Ds} (h : DsAt w v ds) : ∃ ao cap, v = .slice ao ds.length cap ∧ ds.length ≤ cap ∧ cap ≤ maxLen := by
  obtain ⟨us, h1, h2, h3⟩ := h; exact h2.shape
theorem DsAt.nil {w : World} : DsAt w (.slice none 0 0) [] := ⟨[], rfl, SlAt.nil, fun j hj => by simp at hj⟩
theorem DsAt.at {w : World} {v : Value} {ds : Ds} (h : DsAt w v ds) (hp : 0 < ds.length) :
    ∃ b off cap, v = .slice (some ⟨b, off, none⟩) ds.length cap ∧ ds.length ≤ cap ∧ b < w.heap.size ∧
      ∀ j, (hj : j < ds.length) → ∃ u, w.cell? ⟨b, off + j, none⟩ = some u ∧ RgAt w u ds[j] := by
  obtain ⟨us, h1, h2, h3⟩ := h
  obtain ⟨b, off, cap, rfl, a1, _, a2, a3⟩ := SlAt.pos h2 (by omega)
  refine ⟨b, off, cap, rfl, a1, a2, fun j hj => ?_⟩
  obtain ⟨u, e1, e2⟩ := h3 j hj
  exact ⟨u, by rw [a3 j (by omega), e1], e2⟩
/-- one place of it, known by its slice's own parts -/
theorem DsAt.get {w : World} {ao : Option Addr} {n cap : Nat} {ds : Ds} (h : DsAt w (.slice ao n cap) ds) (j : Nat) (hj : j < ds.length) :
    ∃ b off ao' cap', ao = some ⟨b, off, none⟩ ∧ ds.length ≤ cap ∧ b < w.heap.size ∧ n = ds.length ∧ w.cell? ⟨b, off + j, none⟩ = some (.slice ao' ds[j].length cap') ∧ RgAt w (.slice ao' ds[j].length cap') ds[j] := by
  obtain ⟨b, off, c', he, a1, a2, a3⟩ := h.at (by omega)
  simp only [Value.slice.injEq] at he
  obtain ⟨rfl, rfl, rfl⟩ := he
  obtain ⟨u, e1, e2⟩ := a3 j hj
  obtain ⟨ao', cap', rfl, _⟩ := e2.shape
  exact ⟨b, off, ao', cap', rfl, a1, a2, rfl, e1, e2⟩

/-- a cell that holds a slice is none of a set's -/
theorem RgAt.setSlice {w : World} {v : Value} {rs : List Rg} (h : RgAt w v rs) {a : Addr} {ao : Option Addr} {n c : Nat} (hs : w.cell? a = some (.slice ao n c)) (u : Value) : RgAt (w.setCell a u) v rs := by
  obtain ⟨h1, ao0, cap, rfl, h2, h3, h5, h4⟩ := h
  refine ⟨h1, ao0, cap, rfl, h2, h3, h5, fun hp => ?_⟩
  obtain ⟨b, off, rfl, hlt, hc⟩ := h4 hp
  refine ⟨b, off, rfl, by simpa [World.setCell] using hlt, fun j hj => ?_⟩
  rw [← hc j hj]
  have hj2 : j / 2 < rs.length := by omega
  have hint : ∃ z, (cellsR rs)[j]? = some (.int .i64 z) := by
    obtain ⟨a1, a2⟩ := cellsR_at rs (j / 2) hj2
    rcases (show j % 2 = 0 ∨ j % 2 = 1 by omega) with h | h
    · exact ⟨_, by rw [show j = j / 2 * 2 by omega]; exact a1⟩
    · exact ⟨_, by rw [show j = j / 2 * 2 + 1 by omega]; exact a2⟩
  obtain ⟨z, hz⟩ := hint
  by_cases hbk : b = a.block
  · exact World.cell?_setCell_other _ _ _ _ (fun he => by
      have := hc j hj
      rw [← he, hs, hz] at this
      cases this)
  · exact World.cell?_of_block (Below.heap_setCell _ _ _ _ hbk)

/-- an own list of sets -/
def DsOwn (w : World) (base : Nat) (v : Value) (ds : Ds) : Prop :=
  ∃ us : List Value, us.length = ds.length ∧ w.ownsRow base 22 1 v ds.length us ∧ ∀ j, (hj : j < ds.length) → ∃ u, us[j]? = some u ∧ RgAt w u ds[j]
theorem DsOwn.at {w : World} {base : Nat} {v : Value} {ds : Ds} (h : DsOwn w base v ds) : DsAt w v ds := by
  obtain ⟨us, h1, h2, h3⟩ := h
  exact ⟨us, h1, SlAt.of_own h2, h3⟩
theorem DsOwn.below {w w' : World} {base : Nat} {v : Value} {ds : Ds} (h : DsOwn w base v ds) (hb : Below w.heap.size w w') : DsOwn w' base v ds := by
  obtain ⟨us, h1, h2, h3⟩ := h
  exact ⟨us, h1, own_below h2 hb, fun j hj => by obtain ⟨u, a, b⟩ := h3 j hj; exact ⟨u, a, b.below hb⟩⟩
theorem DsOwn.drewN {w : World} {base : Nat} {v : Value} {ds : Ds} (h : DsOwn w base v ds) (q : Nat) : DsOwn (w.drewN q) base v ds := h
theorem DsOwn.get {w : World} {base : Nat} {v : Value} {ds : Ds} (h : DsOwn w base v ds) (j : Nat) (hj : j < ds.length) :
    ∃ g cap ao' cap', v = .slice (some ⟨g, 0, none⟩) ds.length cap ∧ base ≤ g ∧ ds.length ≤ cap ∧ g < w.heap.size ∧ w.cell? ⟨g, j, none⟩ = some (.slice ao' ds[j].length cap') ∧ w.frozen? ⟨g, j, none⟩ = false ∧ RgAt w (.slice ao' ds[j].length cap') ds[j] := by
  obtain ⟨us, h1, h2, h3⟩ := h
  obtain ⟨u, e1, e2⟩ := h3 j hj
  obtain ⟨ao', cap', rfl, _⟩ := e2.shape
  have h2' := h2
  rcases h2.2 with ⟨_, h0⟩ | ⟨g, cap, cur, rfl, hb, hg, hn, _⟩
  · omega
  · exact ⟨g, cap, ao', cap', rfl, hb, hn, (Array.getElem?_eq_some_iff.1 hg).1, by rw [h2'.cellAt j (by omega), e1], h2'.frozenAt j, e2⟩
/-- a place is turned -/
theorem DsOwn.set {w : World} {base : Nat} {g cap : Nat} {ds : Ds} (h : DsOwn w base (.slice (some ⟨g, 0, none⟩) ds.length cap) ds) (j : Nat) (hj : j < ds.length) {u : Value} {d : List Rg} (hu : RgAt w u d) :
    DsOwn (w.setCell ⟨g, j, none⟩ u) base (.slice (some ⟨g, 0, none⟩) ds.length cap) (ds.set j d) := by
  obtain ⟨g', cap', ao', c', he, _, _, _, hc, _, _⟩ := h.get j hj
  simp only [Value.slice.injEq, Option.some.injEq, Addr.mk.injEq] at he
  obtain ⟨⟨rfl, _, _⟩, _, rfl⟩ := he
  obtain ⟨us, h1, h2, h3⟩ := h
  refine ⟨us.set j u, by simp [h1], ?_, fun i hi => ?_⟩
  · rw [List.length_set]
    exact (h2.stored j u).1
  · rw [List.length_set] at hi
    by_cases hij : j = i
    · subst hij
      exact ⟨u, by rw [List.getElem?_set_self (by omega)], by rw [List.getElem_set_self]; exact hu.setSlice hc u⟩
    · obtain ⟨x, e1, e2⟩ := h3 i hi
      exact ⟨x, by rw [List.getElem?_set_ne hij]; exact e1, by rw [List.getElem_set_ne hij]; exact e2.setSlice hc u⟩
end Go.Proofs.YtajooiainglpmaaGreat
namespace Go.Proofs.YtajooiainglpmaaGreat
open Go.RowKit

/-- append of one cell, telling which blocks stay -/
theorem wpList_append1L {P : Program} {ops : Array Oper} {rest : List Oper} {o : Oper} {a : Act} {w : World} {Q : Exit → Act → World → Prop} (hgd : o.guard = none) (s x : Operand) (t : TypeId)
    (ho : o.op = .call { callee := .builtin .append, args := #[s, x], argTypes := #[t, t] })
    (base : Nat) (e : TypeId) (i : TypeInfo) (z : Value) (bytes : Nat) (ht : P.underlying t = some (.slice e)) (hi : P.info? e = some i) (hz : i.zero = some z)
    (hsize : i.size = 1) (hby : i.bytes = bytes) (hzs : z.cells.size = 1)
    (v : Value) (n : Nat) (xs : List Value) (hs : a.eval s = v) (hown : w.ownsRow base e 1 v n xs) {e' : TypeId}
    (u1 : Value) (hx : a.eval x = .slice (some ⟨w.heap.size, 0, none⟩) 1 1) (h1 : u1.oneCell' = true)
    (hbytes : (n + 1) * bytes ≤ 140737488355328 ∧ n + 1 ≤ 140737488355328) (hbase : base ≤ w.heap.size)
    (h : ∀ g cap w', w'.ownsRow base e 1 (.slice (some ⟨g, 0, none⟩) (n + 1) cap) (n + 1) (xs ++ [u1]) → Below base w w' → KeepsBut w w' v → (v.ownBlock = some g ∨ w.heap.size ≤ g) → wpList P ops Q rest (a.put o.dst (.slice (some ⟨g, 0, none⟩) (n + 1) cap)) w') :
    wpList P ops Q (o :: rest) a (w.alloc (.cells #[u1] e')) := by
  refine wpList_append_lies _ hgd s x t ho base e i z 1 bytes ht hi hz hsize hby hzs (by decide) v n xs hs (hown.alloc _) ⟨w.heap.size, 0, none⟩ 1 1 [u1] hx rfl ?_ ?_ (by decide) ?_ hbytes.1 (by simp; omega) _ rfl ?_
  · intro j y hj
    match j, hj with
    | 0, hj => simp at hj; subst hj; simp [Addr.add]
  · intro y hy; simp at hy; subst hy; exact h1
  · unfold maxLen; omega
  · intro g cap w' r1 r2 r3 _
    refine h g cap w' r1 (below_grown hbase r2 (ownBlock_ge hown)) (fun b hb hne => ?_) ?_
    · rw [r2.block b (by simp; omega) (fun he => hne he.symm)]
      exact Below.heap_alloc w _ b hb
    · rcases r3 with h3 | h3
      · exact .inl h3
      · right; rw [h3]; simp

theorem RgAt.keptBut {w w' : World} {v u : Value} {d : List Rg} (h : RgAt w u d) (hk : KeepsBut w w' v) (ha : d ≠ [] → Apart u v) : RgAt w' u d := by
  obtain ⟨h1, ao, cap, rfl, h2, h3, h5, h4⟩ := h
  refine ⟨h1, ao, cap, rfl, h2, h3, h5, fun hp => ?_⟩
  obtain ⟨b, off, rfl, hlt, hc⟩ := h4 hp
  have hne : d ≠ [] := by rintro rfl; simp at hp
  have e := hk b hlt (ha hne b rfl)
  refine ⟨b, off, rfl, ?_, fun j hj => ?_⟩
  · have h0 := hc 0 hp
    have hl : (cellsR d).length = d.length * 2 := h1
    rw [List.getElem?_eq_getElem (by omega)] at h0
    have := World.cell?_of_block (a := ⟨b, off + 0, none⟩) e
    rw [h0] at this
    exact World.block_lt_of_cell? w' _ this
  · rw [← hc j hj]; exact World.cell?_of_block e
theorem RgAt.blk {w : World} {u : Value} {d : List Rg} (h : RgAt w u d) (hne : d ≠ []) : ∀ b, u.ownBlock = some b → b < w.heap.size := fun b hb => by
  obtain ⟨h1, ao, cap, rfl, h2, h3, h5, h4⟩ := h
  have hp : 0 < d.length * 2 := by have := List.length_pos_iff.2 hne; omega
  obtain ⟨b', off, rfl, hlt, hc⟩ := h4 hp
  simp [Value.ownBlock] at hb; omega

def DsApp (w : World) (base : Nat) (v : Value) (ds : Ds) (us : List Value) : Prop :=
  us.length = ds.length ∧ w.ownsRow base 22 1 v ds.length us ∧ ∀ j, (hj : j < ds.length) → ∃ u, us[j]? = some u ∧ RgAt w u ds[j] ∧ (ds[j] ≠ [] → Apart u v)
theorem DsApp.own {w : World} {base : Nat} {v : Value} {ds : Ds} {us : List Value} (h : DsApp w base v ds us) : DsOwn w base v ds :=
  ⟨us, h.1, h.2.1, fun j hj => by obtain ⟨u, a, b, _⟩ := h.2.2 j hj; exact ⟨u, a, b⟩⟩
theorem DsApp.below {w w' : World} {base : Nat} {v : Value} {ds : Ds} {us : List Value} (h : DsApp w base v ds us) (hb : Below w.heap.size w w') : DsApp w' base v ds us :=
  ⟨h.1, own_below h.2.1 hb, fun j hj => by obtain ⟨u, a, b, c⟩ := h.2.2 j hj; exact ⟨u, a, b.below hb, c⟩⟩
theorem DsApp.nil {w : World} {base : Nat} {v : Value} (h : w.ownsRow base 22 1 v 0 []) : DsApp w base v [] [] := ⟨rfl, h, fun j hj => by simp at hj⟩
theorem DsApp.push {w w' : World} {base : Nat} {v : Value} {ds : Ds} {us : List Value} (h : DsApp w base v ds us) {u : Value} {d : List Rg} (hu : RgAt w u d) (ha : d ≠ [] → Apart u v) {g cap : Nat}
    (ho : w'.ownsRow base 22 1 (.slice (some ⟨g, 0, none⟩) (ds.length + 1) cap) (ds.length + 1) (us ++ [u])) (hk : KeepsBut w w' v) (hg : v.ownBlock = some g ∨ w.heap.size ≤ g) :
    DsApp w' base (.slice (some ⟨g, 0, none⟩) (ds.length + 1) cap) (ds ++ [d]) (us ++ [u]) := by
  have hap : ∀ {x : Value} {r : List Rg}, RgAt w x r → (r ≠ [] → Apart x v) → (r ≠ [] → Apart x (.slice (some ⟨g, 0, none⟩) (ds.length + 1) cap)) := fun {x r} hx h0 hne b hb he => by
    have hb' : g = b := by simpa [Value.ownBlock] using he
    subst hb'
    rcases hg with h1 | h1
    · exact h0 hne g hb h1
    · have := hx.blk hne g hb; omega
  refine ⟨by simp [h.1], by rw [List.length_append]; exact ho, fun j hj => ?_⟩
  rw [List.length_append, List.length_singleton] at hj
  by_cases hjl : j < ds.length
  · obtain ⟨x, a, b, c⟩ := h.2.2 j hjl
    refine ⟨x, by rw [List.getElem?_append_left (by rw [h.1]; exact hjl)]; exact a, ?_, ?_⟩
    · rw [List.getElem_append_left hjl]; exact b.keptBut hk c
    · rw [List.getElem_append_left hjl]; exact hap b c
  · obtain rfl : j = ds.length := by omega
    refine ⟨u, by rw [List.getElem?_append_right (by rw [h.1]; exact Nat.le_refl _), h.1]; simp, ?_, ?_⟩
    · rw [List.getElem_append_right (Nat.le_refl _)]; simp; exact hu.keptBut hk ha
    · rw [List.getElem_append_right (Nat.le_refl _)]; simp; exact hap hu ha
/-- what a call has made new is none of a row's that was there -/
theorem apart_made {w0 : World} {base e size n : Nat} {v u : Value} {xs : List Value} (h : w0.ownsRow base e size v n xs) (hu : ∀ b, u.ownBlock = some b → w0.heap.size ≤ b) : Apart u v := fun b hb he => by
  have := hu b hb
  have := (h.lt b he).2
  omega
/-- what lies below a row's base is none of it -/
theorem apart_low {w0 : World} {base e size n : Nat} {v u : Value} {xs : List Value} (h : w0.ownsRow base e size v n xs) (hu : ∀ b, u.ownBlock = some b → b < base) : Apart u v := fun b hb he => by
  have := hu b hb
  have := (h.lt b he).1
  omega
end Go.Proofs.YtajooiainglpmaaGreat
namespace Go.Proofs.YtajooiainglpmaaGreat
open Go.RowKit

def IsAt (w : World) (v : Value) (zs : List Int) : Prop := SlAt w 1 v zs.length (zs.map (Value.int .i64))
theorem IsAt.below {w w' : World} {v : Value} {zs : List Int} (h : IsAt w v zs) (hb : Below w.heap.size w w') : IsAt w' v zs := SlAt.below h hb
/-- a list of integers that is not empty: where it lies -/
theorem IsAt.at {w : World} {v : Value} {zs : List Int} (h : IsAt w v zs) (hp : 0 < zs.length) :
    ∃ b off cap, v = .slice (some ⟨b, off, none⟩) zs.length cap ∧ zs.length ≤ cap ∧ b < w.heap.size ∧ ∀ j, (hj : j < zs.length) → w.cell? ⟨b, off + j, none⟩ = some (.int .i64 zs[j]) := by
  obtain ⟨b, off, cap, rfl, h1, _, h2, h3⟩ := SlAt.pos h (by omega)
  exact ⟨b, off, cap, rfl, h1, h2, fun j hj => by rw [h3 j (by omega)]; simp [hj]⟩

def oddB (c : Int) : Bool := c == 0 || decide (c < -100000) || decide (100000 < c)

set_option maxHeartbeats 400000 in
theorem odd_any (c : Int) (w : World) : Calls Tryz.prog 71 #[.int .i64 c] w fun e w' => e = .returned (.bool (oddB c)) ∧ w = w' := by
  by_cases h0 : c = 0
  · subst h0
    go_enter Tryz.func71, Tryz.ntmps71
    go_wp2
    go_ret
    exact ⟨rfl, rfl⟩
  · have h1 : (c == 0) = false := by simp [h0]
    have hS : Hid (oddB c = (decide (c < -100000) || decide (100000 < c))) := by show _ = _; simp [oddB, h1]
    by_cases h2 : c < -100000
    · go_enter Tryz.func71, Tryz.ntmps71
      go_wp2
      go_ret
      exact ⟨ret_bool (by rw [hS.out]; simp [h2]), rfl⟩
    · go_enter Tryz.func71, Tryz.ntmps71
      go_wp2
      go_ret
      exact ⟨ret_bool (by rw [hS.out]; simp; omega), rfl⟩

/-- the first place of a list at which something is so; -1: none -/
def findI (p : Int → Bool) (zs : List Int) : Int := match zs.findIdx? p with | some i => (i : Int) | none => -1
theorem findI_nonneg (p : Int → Bool) (zs : List Int) : decide (0 ≤ findI p zs) = zs.any p := by
  unfold findI
  cases h : zs.findIdx? p with
  | none => rw [List.findIdx?_eq_none_iff] at h; simp; exact fun x hx => by simpa using h x hx
  | some i =>
    have : zs.any p = true := by
      obtain ⟨h1, h2, _⟩ := List.findIdx?_eq_some_iff_getElem.1 h
      rw [List.any_eq_true]; exact ⟨zs[i], List.getElem_mem h1, h2⟩
    rw [this]; simp
theorem findIdx_hit (p : Int → Bool) (zs : List Int) (k : Nat) (hk : k < zs.length) (h : (zs.take k).any p = false) (hp : p zs[k] = true) : findI p zs = (k : Int) := by
  unfold findI
  have : zs.findIdx? p = some k := by
    rw [List.findIdx?_eq_some_iff_getElem]
    refine ⟨hk, hp, fun j hj hc => ?_⟩
    have : (zs.take k).any p = true := by
      rw [List.any_eq_true]
      exact ⟨zs[j], by rw [List.mem_take_iff_getElem]; exact ⟨j, by omega, rfl⟩, hc⟩
    rw [h] at this; cases this
  rw [this]
theorem findIdx_none (p : Int → Bool) (zs : List Int) (h : zs.any p = false) : findI p zs = -1 := by
  unfold findI
  have : zs.findIdx? p = none := by
    rw [List.findIdx?_eq_none_iff]
    intro x hx
    rw [List.any_eq_false] at h
    simpa using h x hx
  rw [this]
theorem any_take_step (p : Int → Bool) (zs : List Int) (k : Nat) (hk : k < zs.length) (h : (zs.take k).any p = false) (hp : p zs[k] = false) : (zs.take (k + 1)).any p = false := by
  rw [List.take_succ_eq_append_getElem hk, List.any_append, h]; simp [hp]

set_option maxHeartbeats 400000 in
theorem indexOdd_any (v : Value) (zs : List Int) (w : World) (h : IsAt w v zs) (hl : zs.length ≤ 4096) :
    Calls Tryz.prog 62 #[v, .func (.func 71) #[] #[]] w fun e w' => e = .returned (.int .i64 (findI oddB zs)) ∧ w = w' := by
  obtain ⟨ao, cap, rfl, _⟩ := h.shape
  have H := Lib.hid h
  clear h
  go_enter Tryz.func62, Tryz.ntmps62
  go_wp2
  go_loop [8] (fun i => ∃ k : Nat, k ≤ zs.length ∧ i = .int .i64 k ∧ (zs.take k).any oddB = false) (fun i => zs.length - (intOf i).toNat)
  case atStart => exact ⟨0, by omega, rfl, by simp⟩
  case round =>
    obtain ⟨k, hk, rfl, hnot⟩ := hrel
    have HN := Lib.hid hnot
    clear hnot
    by_cases hlt : k < zs.length
    · obtain ⟨b, off, cap', he, _, _, hc⟩ := IsAt.at H.out (by omega)
      simp only [Value.slice.injEq, true_and] at he
      obtain ⟨rfl, rfl⟩ := he
      have hcell := hc k hlt
      clear hc
      obtain ⟨z, hz⟩ : ∃ z, z = zs[k] := ⟨_, rfl⟩
      rw [← hz] at hcell
      cases ho : oddB z with
      | true =>
        have HF := Lib.hid (findIdx_hit oddB zs k hlt HN.out (by rw [← hz]; exact ho))
        have CO : Hid (∀ w, Calls Tryz.prog 71 #[.int .i64 z] w fun e w' => e = .returned (.bool true) ∧ w = w') := fun w => by rw [← ho]; exact odd_any z w
        clear hz ho
        go_wp2_with (first | (go_at_call 71; ((with_reducible refine (CO.out _).mono ?_); rintro e w' ⟨rfl, rfl⟩)))
        go_ret
        exact ⟨ret_int HF.out.symm, rfl⟩
      | false =>
        have HF := Lib.hid (any_take_step oddB zs k hlt HN.out (by rw [← hz]; exact ho))
        have CO : Hid (∀ w, Calls Tryz.prog 71 #[.int .i64 z] w fun e w' => e = .returned (.bool false) ∧ w = w') := fun w => by rw [← ho]; exact odd_any z w
        clear hz ho
        go_wp2_with (first | (go_at_call 71; ((with_reducible refine (CO.out _).mono ?_); rintro e w' ⟨rfl, rfl⟩)))
        go_round
        case rel => exact ⟨k + 1, by omega, by go_num, HF.out⟩
        case measure => simp [intOf]; omega
    · have HF : Hid (findI oddB zs = -1) := findIdx_none oddB zs (by have := HN.out; rwa [List.take_of_length_le (by omega)] at this)
      go_wp2
      go_ret
      exact ⟨ret_int HF.out.symm, rfl⟩

set_option maxHeartbeats 400000 in
theorem containsOdd_any (v : Value) (zs : List Int) (w : World) (h : IsAt w v zs) (hl : zs.length ≤ 4096) :
    Calls Tryz.prog 34 #[v, .func (.func 71) #[] #[]] w fun e w' => e = .returned (.bool (zs.any oddB)) ∧ w = w' := by
  have H := Lib.hid h
  clear h
  go_enter Tryz.func34, Tryz.ntmps34
  go_wp2_with (first | (go_at_call 62; ((with_reducible refine (indexOdd_any _ _ _ H.out hl).mono ?_); rintro e w' ⟨rfl, rfl⟩)))
  go_ret
  exact ⟨ret_bool (findI_nonneg _ _), rfl⟩

set_option maxHeartbeats 400000 in
theorem index_any (v : Value) (zs : List Int) (x : Int) (w : World) (h : IsAt w v zs) (hl : zs.length ≤ 4096) :
    Calls Tryz.prog 86 #[v, .int .i64 x] w fun e w' => e = .returned (.int .i64 (findI (x == ·) zs)) ∧ w = w' := by
  obtain ⟨ao, cap, rfl, _⟩ := h.shape
  have H := Lib.hid h
  clear h
  go_enter Tryz.func86, Tryz.ntmps86
  go_wp2
  go_loop [8] (fun i => ∃ k : Nat, k ≤ zs.length ∧ i = .int .i64 k ∧ (zs.take k).any (x == ·) = false) (fun i => zs.length - (intOf i).toNat)
  case atStart => exact ⟨0, by omega, rfl, by simp⟩
  case round =>
    obtain ⟨k, hk, rfl, hnot⟩ := hrel
    have HN := Lib.hid hnot
    clear hnot
    by_cases hlt : k < zs.length
    · obtain ⟨b, off, cap', he, _, _, hc⟩ := IsAt.at H.out (by omega)
      simp only [Value.slice.injEq, true_and] at he
      obtain ⟨rfl, rfl⟩ := he
      have hcell := hc k hlt
      clear hc
      obtain ⟨z, hz⟩ : ∃ z, z = zs[k] := ⟨_, rfl⟩
      rw [← hz] at hcell
      cases ho : (x == z) with
      | true =>
        have HF := Lib.hid (findIdx_hit (x == ·) zs k hlt HN.out (by rw [← hz]; exact ho))
        clear hz
        go_wp2
        go_ret
        exact ⟨ret_int HF.out.symm, rfl⟩
      | false =>
        have HF := Lib.hid (any_take_step (x == ·) zs k hlt HN.out (by rw [← hz]; exact ho))
        clear hz
        go_wp2
        go_round
        case rel => exact ⟨k + 1, by omega, by go_num, HF.out⟩
        case measure => simp [intOf]; omega
    · have HF : Hid (findI (x == ·) zs = -1) := findIdx_none (x == ·) zs (by have := HN.out; rwa [List.take_of_length_le (by omega)] at this)
      go_wp2
      go_ret
      exact ⟨ret_int HF.out.symm, rfl⟩

set_option maxHeartbeats 400000 in
theorem contains_any (v : Value) (zs : List Int) (x : Int) (w : World) (h : IsAt w v zs) (hl : zs.length ≤ 4096) :
    Calls Tryz.prog 72 #[v, .int .i64 x] w fun e w' => e = .returned (.bool (zs.any (x == ·))) ∧ w = w' := by
  have H := Lib.hid h
  clear h
  go_enter Tryz.func72, Tryz.ntmps72
  go_wp2_with (first | (go_at_call 86; ((with_reducible refine (index_any _ _ _ _ H.out hl).mono ?_); rintro e w' ⟨rfl, rfl⟩)))
  go_ret
  exact ⟨ret_bool (findI_nonneg _ _), rfl⟩

/-! ### Check -/
def shapeB (coef vars : List Int) (rel c : Int) : Bool := coef.length != vars.length || decide (16 < coef.length) || decide (rel < 1) || decide (3 < rel) || decide (c < -1099511627776) || decide (1099511627776 < c) || coef.any oddB
/-- is the variable at a place one that may not be? -/
def badV (vars : List Int) (n : Int) (k : Nat) : Bool := decide (vars.getD k 0 < 0) || decide (n ≤ vars.getD k 0) || (vars.take k).any (vars.getD k 0 == ·)
def linChk (coef vars : List Int) (rel c n : Int) : Int := if shapeB coef vars rel c = true then 150 else if (List.range vars.length).any (badV vars n) = true then 160 else 0

theorem range_any_step (p : Nat → Bool) (k : Nat) (h : (List.range k).any p = false) (hp : p k = false) : (List.range (k + 1)).any p = false := by
  rw [List.range_succ, List.any_append, h]; simp [hp]
theorem range_any_hit (p : Nat → Bool) (k n : Nat) (hk : k < n) (hp : p k = true) : (List.range n).any p = true := by
  rw [List.any_eq_true]; exact ⟨k, by simpa using hk, hp⟩

set_option maxHeartbeats 1600000 in
theorem linCheck_any (v0 v1 : Value) (rel c n : Int) (coef vars : List Int) (w : World) (h0 : IsAt w v0 coef) (h1 : IsAt w v1 vars) (hl0 : coef.length ≤ 4096) (hl1 : vars.length ≤ 4096) :
    Calls Tryz.prog 43 #[.agg #[v0, v1, .int .i64 rel, .int .i64 c], .int .i64 n] w fun e w' => e = .returned (.int .i64 (linChk coef vars rel c n)) ∧ Below w.heap.size w w' := by
  obtain ⟨a0, c0, rfl, _⟩ := h0.shape
  obtain ⟨a1, c1, rfl, _⟩ := h1.shape
  have hB : Below w.heap.size w (w.alloc (.cells #[.slice a0 coef.length c0, .slice a1 vars.length c1, .int .i64 rel, .int .i64 c] 28)) := (Below.refl _ _).alloc (Nat.le_refl _) _
  have H0 := Lib.hid (h0.below hB)
  have H1 := Lib.hid (h1.below hB)
  clear h0 h1
  have CO : Hid (Calls Tryz.prog 34 #[.slice a0 coef.length c0, .func (.func 71) #[] #[]] (w.alloc (.cells #[.slice a0 coef.length c0, .slice a1 vars.length c1, .int .i64 rel, .int .i64 c] 28)) fun e w' => e = .returned (.bool (coef.any oddB)) ∧ (w.alloc (.cells #[.slice a0 coef.length c0, .slice a1 vars.length c1, .int .i64 rel, .int .i64 c] 28)) = w') := containsOdd_any _ _ _ H0.out hl0
  by_cases e1 : coef.length ≠ vars.length
  · have e1' : ((coef.length : Int) != (vars.length : Int)) = true := by simp; omega
    have hS : Hid (linChk coef vars rel c n = 150) := by show _ = _; simp [linChk, shapeB, e1]
    go_enter Tryz.func43, Tryz.ntmps43
    go_wp2_with (first | (go_at_call 34; ((with_reducible refine (CO.out).mono ?_); rintro e w' ⟨rfl, rfl⟩)))
    go_ret
    exact ⟨ret_int hS.out.symm, hB⟩
  have e1' : ((coef.length : Int) != (vars.length : Int)) = false := by simp; omega
  have e1'' : (coef.length != vars.length) = false := by simp; omega
  have E1 := Lib.hid e1''
  clear e1 e1''
  by_cases e2 : 16 < coef.length
  · have hS : Hid (linChk coef vars rel c n = 150) := by show _ = _; simp [linChk, shapeB, e2]
    go_enter Tryz.func43, Tryz.ntmps43
    go_wp2_with (first | (go_at_call 34; ((with_reducible refine (CO.out).mono ?_); rintro e w' ⟨rfl, rfl⟩)))
    go_ret
    exact ⟨ret_int hS.out.symm, hB⟩
  by_cases e3 : rel < 1
  · have hS : Hid (linChk coef vars rel c n = 150) := by show _ = _; simp [linChk, shapeB, e3]
    go_enter Tryz.func43, Tryz.ntmps43
    go_wp2_with (first | (go_at_call 34; ((with_reducible refine (CO.out).mono ?_); rintro e w' ⟨rfl, rfl⟩)))
    go_ret
    exact ⟨ret_int hS.out.symm, hB⟩
  by_cases e4 : 3 < rel
  · have hS : Hid (linChk coef vars rel c n = 150) := by show _ = _; simp [linChk, shapeB, e4]
    go_enter Tryz.func43, Tryz.ntmps43
    go_wp2_with (first | (go_at_call 34; ((with_reducible refine (CO.out).mono ?_); rintro e w' ⟨rfl, rfl⟩)))
    go_ret
    exact ⟨ret_int hS.out.symm, hB⟩
  by_cases e5 : c < -1099511627776
  · have hS : Hid (linChk coef vars rel c n = 150) := by show _ = _; simp [linChk, shapeB, e5]
    go_enter Tryz.func43, Tryz.ntmps43
    go_wp2_with (first | (go_at_call 34; ((with_reducible refine (CO.out).mono ?_); rintro e w' ⟨rfl, rfl⟩)))
    go_ret
    exact ⟨ret_int hS.out.symm, hB⟩
  by_cases e6 : 1099511627776 < c
  · have hS : Hid (linChk coef vars rel c n = 150) := by show _ = _; simp [linChk, shapeB, e6]
    go_enter Tryz.func43, Tryz.ntmps43
    go_wp2_with (first | (go_at_call 34; ((with_reducible refine (CO.out).mono ?_); rintro e w' ⟨rfl, rfl⟩)))
    go_ret
    exact ⟨ret_int hS.out.symm, hB⟩
  cases e7 : coef.any oddB with
  | true =>
    rw [e7] at CO
    have hS : Hid (linChk coef vars rel c n = 150) := by show _ = _; simp [linChk, shapeB, e7]
    clear e7
    go_enter Tryz.func43, Tryz.ntmps43
    go_wp2_with (first | (go_at_call 34; ((with_reducible refine (CO.out).mono ?_); rintro e w' ⟨rfl, rfl⟩)))
    go_ret
    exact ⟨ret_int hS.out.symm, hB⟩
  | false =>
    rw [e7] at CO
    have hS : Hid (linChk coef vars rel c n = if (List.range vars.length).any (badV vars n) = true then 160 else 0) := by
      show _ = _
      have := E1.out
      simp [linChk, shapeB, this, e2, e3, e4, e5, e6, e7]
    clear e7
    go_enter Tryz.func43, Tryz.ntmps43
    go_wp2_with (first | (go_at_call 34; ((with_reducible refine (CO.out).mono ?_); rintro e w' ⟨rfl, rfl⟩)))
    go_loop [50] (fun i => ∃ k : Nat, k ≤ vars.length ∧ i = .int .i64 k ∧ (List.range k).any (badV vars n) = false) (fun i => vars.length - (intOf i).toNat)
    case atStart => exact ⟨0, by omega, rfl, rfl⟩
    case round =>
      obtain ⟨k, hk, rfl, hnot⟩ := hrel
      have HN := Lib.hid hnot
      clear hnot
      by_cases hlt : k < vars.length
      · obtain ⟨b, off, cap', he, hcap, _, hc⟩ := IsAt.at H1.out (by omega)
        simp only [Value.slice.injEq, true_and] at he
        obtain ⟨rfl, rfl⟩ := he
        have hcell := hc k hlt
        clear hc
        obtain ⟨z, hz⟩ : ∃ z, z = vars[k] := ⟨_, rfl⟩
        have HZ : Hid (vars.getD k 0 = z) := by show _ = _; rw [hz]; simp [hlt]
        rw [← hz] at hcell
        clear hz
        have HT : Hid (IsAt (w.alloc (.cells #[.slice a0 coef.length c0, .slice (some ⟨b, off, none⟩) vars.length c1, .int .i64 rel, .int .i64 c] 28)) (.slice (some ⟨b, off, none⟩) k c1) (vars.take k)) := by
          have := SlAt.take H1.out k c1 (by omega) (by omega) (Nat.le_refl _)
          unfold IsAt Hid
          rw [List.length_take, Nat.min_eq_left (by omega), List.map_take]
          simpa using this
        by_cases z1 : z < 0
        · have hF : Hid ((List.range vars.length).any (badV vars n) = true) := range_any_hit _ k _ hlt (by rw [badV, HZ.out]; simp [z1])
          go_wp2
          go_ret
          exact ⟨ret_int (by rw [hS.out, hF.out]; rfl), hB⟩
        · by_cases z2 : n ≤ z
          · have hF : Hid ((List.range vars.length).any (badV vars n) = true) := range_any_hit _ k _ hlt (by rw [badV, HZ.out]; simp [z2])
            go_wp2
            go_ret
            exact ⟨ret_int (by rw [hS.out, hF.out]; rfl), hB⟩
          · cases z3 : (vars.take k).any (z == ·) with
            | true =>
              have hF : Hid ((List.range vars.length).any (badV vars n) = true) := range_any_hit _ k _ hlt (by rw [badV, HZ.out, z3]; simp)
              have CC : Hid (∀ w' v, IsAt w' v (vars.take k) → Calls Tryz.prog 72 #[v, .int .i64 z] w' fun e w'' => e = .returned (.bool true) ∧ w' = w'') := fun w' v h => by
                rw [← z3]; exact contains_any _ _ _ _ h (by rw [List.length_take]; omega)
              clear z3
              go_wp2_with (first | (go_at_call 72; ((with_reducible refine (CC.out _ _ HT.out).mono ?_); rintro e w' ⟨rfl, rfl⟩)))
              go_ret
              exact ⟨ret_int (by rw [hS.out, hF.out]; rfl), hB⟩
            | false =>
              have hF : Hid ((List.range (k + 1)).any (badV vars n) = false) := range_any_step _ k HN.out (by rw [badV, HZ.out, z3]; simp; omega)
              have CC : Hid (∀ w' v, IsAt w' v (vars.take k) → Calls Tryz.prog 72 #[v, .int .i64 z] w' fun e w'' => e = .returned (.bool false) ∧ w' = w'') := fun w' v h => by
                rw [← z3]; exact contains_any _ _ _ _ h (by rw [List.length_take]; omega)
              clear z3
              go_wp2_with (first | (go_at_call 72; ((with_reducible refine (CC.out _ _ HT.out).mono ?_); rintro e w' ⟨rfl, rfl⟩)))
              go_round
              case rel => exact ⟨k + 1, by omega, by go_num, hF.out⟩
              case measure => simp [intOf]; omega
      · have hF : Hid ((List.range vars.length).any (badV vars n) = false) := by have := HN.out; rwa [show k = vars.length by omega] at this
        go_wp2
        go_ret
        exact ⟨ret_int (by rw [hS.out, hF.out]; rfl), hB⟩
end Go.Proofs.YtajooiainglpmaaGreat
namespace Go.Proofs.YtajooiainglpmaaGreat
open Go.RowKit

theorem mul_bnd (x c B : Int) (hx : -200 ≤ x ∧ x ≤ 200) (hc : -B ≤ c ∧ c ≤ B) : -(200 * B) ≤ c * x ∧ c * x ≤ 200 * B := by
  have h1 : (c * x).natAbs ≤ B.toNat * 200 := by
    rw [Int.natAbs_mul]; exact Nat.mul_le_mul (by omega) (by omega)
  omega
theorem wrap_small {x : Int} (h : -9223372036854775808 ≤ x ∧ x ≤ 9223372036854775807) : IntKind.i64.wrap x = x := by
  simp [IntKind.wrap, IntKind.bits, IntKind.signed]; omega

set_option maxRecDepth 100000 in
set_option maxHeartbeats 800000 in
theorem part_c (vd : Value) (c : Int) (d : List Rg) (w : World) (hd : RgAt w vd d) (hl : d.length ≤ 4096) (hc : -100000 ≤ c ∧ c ≤ 100000) :
    Calls Tryz.prog 132 #[.int .i64 c, vd] w fun e w' => e = .returned (.tuple #[.agg #[.int .i64 (loT c d), .int .i64 (hiT c d)], .bool (okT d)]) ∧ Below w.heap.size w w' := by
  obtain ⟨ao, cap, rfl, _⟩ := hd.shape
  have CE : Hid (∀ W, Below w.heap.size w W → Calls Tryz.prog 136 #[.slice ao d.length cap] W fun e w' => e = .returned (.tuple #[.int .i64 (endsL (norm d)).1, .int .i64 (endsL (norm d)).2.1, .bool (endsL (norm d)).2.2]) ∧ Below W.heap.size W w') := fun W h => ends_c _ d W (hd.below h) hl
  obtain ⟨b1, b2, b3, b4⟩ := ends_bnd d
  unfold loT hiT okT
  clear hd
  generalize (endsL (norm d)).1 = lo at *
  generalize (endsL (norm d)).2.1 = hi at *
  generalize (endsL (norm d)).2.2 = ok at *
  obtain ⟨m1, m2⟩ := mul_bnd lo c 100000 ⟨b1, b2⟩ hc
  obtain ⟨m3, m4⟩ := mul_bnd hi c 100000 ⟨b3, b4⟩ hc
  have w1 := wrap_small (x := c * lo) (by omega)
  have w2 := wrap_small (x := c * hi) (by omega)
  have CE2 : Hid (Calls Tryz.prog 136 #[.slice ao d.length cap] (w.alloc (.cells #[.int .i64 0, .int .i64 0] 166)) fun e w' => e = .returned (.tuple #[.int .i64 lo, .int .i64 hi, .bool ok]) ∧
      Below w.heap.size w w' ∧ Box2 w' w.heap.size (.int .i64 0) (.int .i64 0)) :=
    (CE.out _ ((Below.refl _ _).alloc (Nat.le_refl _) _)).mono fun e w' ⟨he, hb⟩ => ⟨he, ((Below.refl _ _).alloc (Nat.le_refl _) _).trans (hb.mono (by simp)), (Box2.mk' _ _ _ _).past hb⟩
  by_cases h0 : c < 0
  · simp only [if_pos h0]
    go_enter Tryz.func132, Tryz.ntmps132
    go_wp2_with (go_at_call 136; (with_reducible refine CE2.out.mono ?_); rintro e W ⟨rfl, bb, qb⟩; have B1 := Lib.hid bb; have Q := Lib.hid qb; obtain ⟨q1, q2, q3, q4⟩ := qb; clear bb)
    have s0 := (Q.out.set0 (.int .i64 (c * hi))).c0
    have s1 := ((Q.out.set0 (.int .i64 (c * hi))).set1 (.int .i64 (c * lo))).c1
    refine bodyPost_ret (v := .tuple #[.agg #[.int .i64 (c * hi), .int .i64 (c * lo)], .bool ok]) (by rw [results_cell_tmp rfl]; go_simp) rfl ⟨rfl, (B1.out.setCell (p := ⟨w.heap.size, 0, none⟩) (Nat.le_refl _) _).setCell (p := ⟨w.heap.size, 1, none⟩) (Nat.le_refl _) _⟩
  · simp only [if_neg h0]
    go_enter Tryz.func132, Tryz.ntmps132
    go_wp2_with (go_at_call 136; (with_reducible refine CE2.out.mono ?_); rintro e W ⟨rfl, bb, qb⟩; have B1 := Lib.hid bb; have Q := Lib.hid qb; obtain ⟨q1, q2, q3, q4⟩ := qb; clear bb)
    have s0 := (Q.out.set0 (.int .i64 (c * lo))).c0
    have s1 := ((Q.out.set0 (.int .i64 (c * lo))).set1 (.int .i64 (c * hi))).c1
    refine bodyPost_ret (v := .tuple #[.agg #[.int .i64 (c * lo), .int .i64 (c * hi)], .bool ok]) (by rw [results_cell_tmp rfl]; go_simp) rfl ⟨rfl, (B1.out.setCell (p := ⟨w.heap.size, 0, none⟩) (Nat.le_refl _) _).setCell (p := ⟨w.heap.size, 1, none⟩) (Nat.le_refl _) _⟩
end Go.Proofs.YtajooiainglpmaaGreat
namespace Go.Proofs.YtajooiainglpmaaGreat
open Go.RowKit

/-- a sum that Check has let by, over domains of at most 4096 ranges -/
structure GoodL (coef vars : List Int) (ds : Ds) : Prop where
  len : coef.length = vars.length
  le16 : coef.length ≤ 16
  coefs : ∀ c ∈ coef, -100000 ≤ c ∧ c ≤ 100000
  vars : ∀ v ∈ vars, 0 ≤ v ∧ v < ds.length
  doms : ∀ d ∈ ds, d.length ≤ 4096

theorem IsAt.shape {w : World} {v : Value} {zs : List Int} (h : IsAt w v zs) : ∃ ao cap, v = .slice ao zs.length cap ∧ zs.length ≤ cap ∧ cap ≤ maxLen := SlAt.shape h
theorem GoodL.zip_len {coef vars : List Int} {ds : Ds} (h : GoodL coef vars ds) : (coef.zip vars).length = coef.length := by
  rw [List.length_zip, ← h.len]; omega

def spans (ds : Ds) (ps : Ps) : List Rg := ps.map fun p => (loT p.1 (domOf ds p.2), hiT p.1 (domOf ds p.2))
theorem spans_length (ds : Ds) (ps : Ps) : (spans ds ps).length = ps.length := by simp [spans]

theorem domOf_in (ds : Ds) (v : Int) (h : 0 ≤ v ∧ v < ds.length) : ∃ n : Nat, v = n ∧ ∃ hn : n < ds.length, domOf ds v = ds[n] := by
  obtain ⟨h1, h2⟩ := h
  refine ⟨v.toNat, by omega, by omega, ?_⟩
  unfold domOf
  rw [List.getD_eq_getElem?_getD, List.getElem?_eq_getElem (by omega)]; rfl
theorem IsAt.get {w : World} {ao : Option Addr} {n cap : Nat} {zs : List Int} (h : IsAt w (.slice ao n cap) zs) (k : Nat) (hk : k < zs.length) :
    ∃ b off, ao = some ⟨b, off, none⟩ ∧ zs.length ≤ cap ∧ b < w.heap.size ∧ w.cell? ⟨b, off + k, none⟩ = some (.int .i64 zs[k]) := by
  obtain ⟨b, off, c', he, hc, hb, hx⟩ := IsAt.at h (by omega)
  simp only [Value.slice.injEq] at he
  obtain ⟨rfl, rfl, rfl⟩ := he
  exact ⟨b, off, rfl, hc, hb, hx k hk⟩

/-- the cells that hold term k: coefficient, variable, domain -/
theorem row_facts {w : World} {a0 a1 a2 : Option Addr} {c0 c1 c2 : Nat} {coef vars : List Int} {ds : Ds} (h0 : IsAt w (.slice a0 coef.length c0) coef) (h1 : IsAt w (.slice a1 vars.length c1) vars) (hd : DsAt w (.slice a2 ds.length c2) ds) (hg : GoodL coef vars ds) :
    ∀ k, (hk : k < (coef.zip vars).length) → ∃ (b0 o0 b1 o1 b2 o2 n : Nat) (ao : Option Addr) (cap : Nat) (cf : Int) (d : List Rg),
      (a0 = some ⟨b0, o0, none⟩ ∧ a1 = some ⟨b1, o1, none⟩ ∧ a2 = some ⟨b2, o2, none⟩) ∧ (coef.length ≤ c0 ∧ vars.length ≤ c1 ∧ ds.length ≤ c2) ∧ (b0 < w.heap.size ∧ b1 < w.heap.size ∧ b2 < w.heap.size) ∧ n < ds.length ∧
      w.cell? ⟨b0, o0 + k, none⟩ = some (.int .i64 cf) ∧ w.cell? ⟨b1, o1 + k, none⟩ = some (.int .i64 (n : Int)) ∧ w.cell? ⟨b2, o2 + n, none⟩ = some (.slice ao d.length cap) ∧ RgAt w (.slice ao d.length cap) d ∧
      (coef.zip vars)[k] = (cf, (n : Int)) ∧ domOf ds n = d ∧ d.length ≤ 4096 ∧ -100000 ≤ cf ∧ cf ≤ 100000 := fun k hk => by
  have hkc : k < coef.length := by rw [← hg.zip_len]; exact hk
  have hkv : k < vars.length := by rw [← hg.len]; exact hkc
  obtain ⟨b0, o0, rfl, q0, l0, x0⟩ := h0.get k hkc
  obtain ⟨b1, o1, rfl, q1, l1, x1⟩ := h1.get k hkv
  obtain ⟨n, e1, hn, e2⟩ := domOf_in ds vars[k] (hg.vars _ (List.getElem_mem _))
  obtain ⟨b2, o2, ao, cap, rfl, q2, l2, _, x2, x3⟩ := hd.get n hn
  rw [e1] at x1 e2
  have hc := hg.coefs _ (List.getElem_mem hkc)
  exact ⟨b0, o0, b1, o1, b2, o2, n, ao, cap, coef[k], ds[n], ⟨rfl, rfl, rfl⟩, ⟨q0, q1, q2⟩, ⟨l0, l1, l2⟩, hn, x0, x1, x2, x3, by rw [List.getElem_zip, e1], e2, hg.doms _ (List.getElem_mem _), hc.1, hc.2⟩

theorem loT_bnd (c : Int) (d : List Rg) (hc : -100000 ≤ c ∧ c ≤ 100000) : (-20000000 ≤ loT c d ∧ loT c d ≤ 20000000) ∧ (-20000000 ≤ hiT c d ∧ hiT c d ≤ 20000000) := by
  obtain ⟨b1, b2, b3, b4⟩ := ends_bnd d
  have m1 := mul_bnd (endsL (norm d)).1 c 100000 ⟨b1, b2⟩ hc
  have m2 := mul_bnd (endsL (norm d)).2.1 c 100000 ⟨b3, b4⟩ hc
  unfold loT hiT
  split <;> omega
theorem sum_take_bnd (f : Int × Int → Int) (B : Int) : ∀ (ps : Ps), (∀ p ∈ ps, -B ≤ f p ∧ f p ≤ B) → -(B * ps.length) ≤ (ps.map f).sum ∧ (ps.map f).sum ≤ B * ps.length
  | [], _ => by simp
  | p :: ps, h => by
    have h1 := sum_take_bnd f B ps (fun q hq => h q (by simp [hq]))
    have h2 := h p (by simp)
    simp only [List.map_cons, List.sum_cons, List.length_cons]
    push_cast
    rw [Int.mul_add]
    omega
theorem sums_bnd {coef vars : List Int} {ds : Ds} (hg : GoodL coef vars ds) : ∀ k, (-320000000 ≤ loS ds ((coef.zip vars).take k) ∧ loS ds ((coef.zip vars).take k) ≤ 320000000) ∧ (-320000000 ≤ hiS ds ((coef.zip vars).take k) ∧ hiS ds ((coef.zip vars).take k) ≤ 320000000) := fun k => by
  have hl : ((coef.zip vars).take k).length ≤ 16 := by
    rw [List.length_take, hg.zip_len]; have := hg.le16; omega
  have hc : ∀ p ∈ (coef.zip vars).take k, -100000 ≤ p.1 ∧ p.1 ≤ 100000 := fun p hp => hg.coefs _ (List.of_mem_zip (List.mem_of_mem_take hp : (p.1, p.2) ∈ coef.zip vars)).1
  have h1 := sum_take_bnd (fun p => loT p.1 (domOf ds p.2)) 20000000 _ (fun p hp => (loT_bnd p.1 (domOf ds p.2) (hc p hp)).1)
  have h2 := sum_take_bnd (fun p => hiT p.1 (domOf ds p.2)) 20000000 _ (fun p hp => (loT_bnd p.1 (domOf ds p.2) (hc p hp)).2)
  unfold loS hiS
  constructor <;> constructor <;> omega
theorem sums_step {coef vars : List Int} {ds : Ds} (_ : GoodL coef vars ds) : ∀ k, (hk : k < (coef.zip vars).length) → ∀ cf n d, (coef.zip vars)[k] = (cf, n) → domOf ds n = d →
    loS ds ((coef.zip vars).take (k + 1)) = loS ds ((coef.zip vars).take k) + loT cf d ∧ hiS ds ((coef.zip vars).take (k + 1)) = hiS ds ((coef.zip vars).take k) + hiT cf d ∧
    spans ds ((coef.zip vars).take (k + 1)) = spans ds ((coef.zip vars).take k) ++ [(loT cf d, hiT cf d)] ∧
    (allOk ds ((coef.zip vars).take k) = true → okT d = true → allOk ds ((coef.zip vars).take (k + 1)) = true) ∧ (okT d = false → allOk ds (coef.zip vars) = false) := fun k hk cf n d e1 e2 => by
  subst e2
  rw [List.take_succ_eq_append_getElem hk, e1]
  refine ⟨by simp [loS], by simp [hiS], by simp [spans], fun h1 h2 => ?_, fun h => ?_⟩
  · unfold allOk at *
    rw [List.all_append, h1]; simpa using h2
  · unfold allOk
    rw [List.all_eq_false]
    exact ⟨(coef.zip vars)[k], List.getElem_mem _, by rw [e1]; simpa using h⟩
end Go.Proofs.YtajooiainglpmaaGreat
