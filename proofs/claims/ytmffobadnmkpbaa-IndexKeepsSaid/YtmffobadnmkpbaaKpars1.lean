/-
  TERMS AS TREES, and where they lie in memory. Over any program.
  A ROW OF THE CALL's OWN stays behind a call that only makes memory. Over any program.
  coneyref05: what is made of terms (atom, cmp, one, two), walked.
  APPEND of one element of any size, telling which blocks stay and where the row lies. Over any program.
  TOKENS: a list of them in memory. Over any program.
  THE READER: its struct in memory, its tokens, its names; what its methods leave alone. coneyref05's next, mark, fail, wrong, must.
-/
import Derived.Test.YtmffobadnmkpbaaKlib1
import Derived.Test.YtmffobadnmkpbaaRows
import Derived.WalkKit
import Derived.WalkSpells
import Derived.WalkLawsBesides
import Derived.Lib.Hide
import Derived.Deep.AppendLies
import Derived.Deep.QuietTactic
import Derived.BigQuiet
import Derived.Handy
namespace Go.Proofs.Ytmffobadnmkpbaa
open Go.RowKit

inductive Tm where
  | nil
  | var (n : Nat)
  | int (z : Int)
  | atom (s : ByteArray)
  | cmp (s : ByteArray) (l : List Tm)

def Tm.kind : Tm → Int
  | .nil => 0
  | .var _ => 1
  | .int _ => 2
  | .atom _ => 3
  | .cmp _ _ => 4
def Tm.num : Tm → Int
  | .var n => n
  | .int z => z
  | _ => 0
def Tm.name : Tm → ByteArray
  | .atom s => s
  | .cmp s _ => s
  | _ => ByteArray.empty
def Tm.args : Tm → List Tm
  | .cmp _ l => l
  | _ => []

mutual
def Tm.size : Tm → Nat
  | .nil => 1
  | .var _ => 1
  | .int _ => 1
  | .atom _ => 1
  | .cmp _ l => 1 + Tm.sizes l
def Tm.sizes : List Tm → Nat
  | [] => 0
  | t :: l => t.size + Tm.sizes l
end
theorem Tm.sizes_append (a b : List Tm) : Tm.sizes (a ++ b) = Tm.sizes a + Tm.sizes b := by
  induction a with
  | nil => simp [Tm.sizes]
  | cons t l ih => simp [Tm.sizes, ih]; omega
theorem Tm.size_pos (t : Tm) : 0 < t.size := by cases t <;> simp [Tm.size]; omega
theorem Tm.sizes_mem {l : List Tm} {t : Tm} (h : t ∈ l) : t.size ≤ Tm.sizes l := by
  induction l with
  | nil => cases h
  | cons a l ih =>
    rcases List.mem_cons.1 h with rfl | h
    · simp [Tm.sizes]
    · have := ih h; simp only [Tm.sizes]; omega
theorem Tm.sizes_len (l : List Tm) : l.length ≤ Tm.sizes l := by
  induction l with
  | nil => simp
  | cons a l ih => have := a.size_pos; simp only [Tm.sizes, List.length_cons]; omega

theorem Tm.ind {P : Tm → Prop} (h0 : P .nil) (h1 : ∀ n, P (.var n)) (h2 : ∀ z, P (.int z)) (h3 : ∀ s, P (.atom s)) (h4 : ∀ s l, (∀ t ∈ l, P t) → P (.cmp s l)) (t : Tm) : P t := by
  have key : ∀ k, ∀ t : Tm, t.size ≤ k → P t := by
    intro k
    induction k with
    | zero => intro t h; have := t.size_pos; omega
    | succ k ih =>
      intro t h
      cases t with
      | nil => exact h0
      | var n => exact h1 n
      | int z => exact h2 z
      | atom s => exact h3 s
      | cmp s l =>
        refine h4 s l (fun t ht => ih t ?_)
        have := Tm.sizes_mem ht
        simp only [Tm.size] at h
        omega
  exact key _ t (Nat.le_refl _)

/-- what the reader makes, where it makes no fault -/
inductive Tm.ok : Tm → Prop
  | var {n : Nat} : n < 5000 → Tm.ok (.var n)
  | int {z : Int} : -9223372036854775808 ≤ z → z ≤ 9223372036854775807 → Tm.ok (.int z)
  | atom {s : ByteArray} : s.size ≤ 4096 → Tm.ok (.atom s)
  | cmp {s : ByteArray} {l : List Tm} : s.size ≤ 4096 → 0 < l.length → (∀ t ∈ l, Tm.ok t) → Tm.ok (.cmp s l)

def tmV (t : Tm) (a : Value) : Value := .agg #[.int .i64 t.kind, .int .i64 t.num, .string t.name, a]
def tmC (x : Tm × Value) : List Value := [.int .i64 x.1.kind, .int .i64 x.1.num, .string x.1.name, x.2]
def tmCs (l : List (Tm × Value)) : List Value := l.flatMap tmC
theorem tmCs_len (l : List (Tm × Value)) : (tmCs l).length = l.length * 4 := by
  induction l with
  | nil => rfl
  | cons a l ih => simp only [tmCs, List.flatMap_cons, List.length_append, List.length_cons] at *; rw [ih]; simp [tmC]; omega
theorem tmCs_append (a b : List (Tm × Value)) : tmCs (a ++ b) = tmCs a ++ tmCs b := by simp [tmCs]
theorem tmCs_snoc (a : List (Tm × Value)) (t : Tm) (v : Value) : tmCs (a ++ [(t, v)]) = tmCs a ++ [.int .i64 t.kind, .int .i64 t.num, .string t.name, v] := by simp [tmCs, tmC]
theorem tmCs_at (l : List (Tm × Value)) (i : Nat) (h : i < l.length) : ∀ j, j < 4 → (tmCs l)[i * 4 + j]? = (tmC l[i])[j]? := by
  induction l generalizing i with
  | nil => simp at h
  | cons a l ih =>
    intro j hj
    have e : tmCs (a :: l) = tmC a ++ tmCs l := by simp [tmCs]
    have hl : (tmC a).length = 4 := rfl
    cases i with
    | zero => rw [e, List.getElem?_append_left (by omega)]; simp
    | succ i =>
      rw [e, List.getElem?_append_right (by omega), hl, show (i + 1) * 4 + j - 4 = i * 4 + j by omega, ih i (by simpa using h) j hj]
      simp

/-- a term's four cells, from a place on -/
structure CellsT (w : World) (b o : Nat) (t : Tm) (a : Value) : Prop where
  c0 : w.cell? ⟨b, o, none⟩ = some (.int .i64 t.kind)
  c1 : w.cell? ⟨b, o + 1, none⟩ = some (.int .i64 t.num)
  c2 : w.cell? ⟨b, o + 2, none⟩ = some (.string t.name)
  c3 : w.cell? ⟨b, o + 3, none⟩ = some a
theorem CellsT.block {w w' : World} {b o : Nat} {t : Tm} {a : Value} (h : CellsT w b o t a) (e : w'.heap[b]? = w.heap[b]?) : CellsT w' b o t a :=
  ⟨(World.cell?_of_block (a := ⟨b, o, none⟩) e).trans h.c0, (World.cell?_of_block (a := ⟨b, o + 1, none⟩) e).trans h.c1, (World.cell?_of_block (a := ⟨b, o + 2, none⟩) e).trans h.c2, (World.cell?_of_block (a := ⟨b, o + 3, none⟩) e).trans h.c3⟩
theorem CellsT.lt {w : World} {b o : Nat} {t : Tm} {a : Value} (h : CellsT w b o t a) : b < w.heap.size := World.block_lt_of_cell? w ⟨b, o, none⟩ h.c0

/-- a term's arguments lie there, in blocks that are such -/
inductive TmAt (p : Nat → Prop) (w : World) : Tm → Value → Prop
  | leaf {t : Tm} : t.args = [] → TmAt p w t (.slice none 0 0)
  | node {s : ByteArray} {l : List Tm} {av0 : Nat → Value} {b off cap : Nat} : 0 < l.length → l.length ≤ cap → cap ≤ maxLen → p b →
      (∀ i, (h : i < l.length) → CellsT w b (off + i * 4) l[i] (av0 i)) → (∀ i, (h : i < l.length) → TmAt p w l[i] (av0 i)) → TmAt p w (.cmp s l) (.slice (some ⟨b, off, none⟩) l.length cap)
theorem TmAt.mono {p p' : Nat → Prop} {w w' : World} (hp : ∀ b, b < w.heap.size → p b → p' b ∧ w'.heap[b]? = w.heap[b]?) {t : Tm} {a : Value} (h : TmAt p w t a) : TmAt p' w' t a := by
  induction h with
  | leaf h => exact .leaf h
  | node h0 h1 h2 h3 h4 _ ih =>
    have hl := (h4 0 h0).lt
    exact .node h0 h1 h2 (hp _ hl h3).1 (fun i h => (h4 i h).block (hp _ hl h3).2) ih
theorem TmAt.shape {p : Nat → Prop} {w : World} {t : Tm} {a : Value} (h : TmAt p w t a) : ∃ ao cap, a = .slice ao t.args.length cap ∧ t.args.length ≤ cap ∧ cap ≤ maxLen := by
  cases h with
  | leaf h => rw [h]; exact ⟨none, 0, rfl, Nat.le_refl _, by simp [maxLen]⟩
  | node h0 h1 h2 _ _ _ => exact ⟨_, _, rfl, h1, h2⟩
theorem TmAt.later {w w' : World} {t : Tm} {a : Value} (h : TmAt (fun _ => True) w t a) (hb : Below w.heap.size w w') : TmAt (fun _ => True) w' t a :=
  h.mono fun b hl _ => ⟨trivial, hb.block b hl⟩
theorem TmAt.any {p : Nat → Prop} {w : World} {t : Tm} {a : Value} (h : TmAt p w t a) : TmAt (fun _ => True) w t a := h.mono fun _ _ _ => ⟨trivial, rfl⟩
/-- the argument at a place -/
theorem TmAt.arg {p : Nat → Prop} {w : World} {t : Tm} {ao : Option Addr} {n cap : Nat} (h : TmAt p w t (.slice ao n cap)) (i : Nat) (hi : i < t.args.length) :
    ∃ b off a, ao = some ⟨b, off, none⟩ ∧ n = t.args.length ∧ p b ∧ CellsT w b (off + i * 4) t.args[i] a ∧ TmAt p w t.args[i] a := by
  cases h with
  | leaf h => rw [h] at hi; simp at hi
  | node h0 h1 h2 h3 h4 h5 => exact ⟨_, _, _, rfl, rfl, h3, h4 i hi, h5 i hi⟩

/-- a list of terms in memory -/
def TsAt (p : Nat → Prop) (w : World) (v : Value) (l : List Tm) : Prop :=
  ∃ ao cap, v = .slice ao l.length cap ∧ l.length ≤ cap ∧ cap ≤ maxLen ∧ (ao = none → cap = 0) ∧ (0 < l.length → ∃ b off, ∃ av0 : Nat → Value, ao = some ⟨b, off, none⟩ ∧ p b ∧
    (∀ i, (h : i < l.length) → CellsT w b (off + i * 4) l[i] (av0 i)) ∧ (∀ i, (h : i < l.length) → TmAt p w l[i] (av0 i)))
theorem TsAt.mono {p p' : Nat → Prop} {w w' : World} (hp : ∀ b, b < w.heap.size → p b → p' b ∧ w'.heap[b]? = w.heap[b]?) {v : Value} {l : List Tm} (h : TsAt p w v l) : TsAt p' w' v l := by
  obtain ⟨ao, cap, rfl, h1, h2, hn, h3⟩ := h
  refine ⟨ao, cap, rfl, h1, h2, hn, fun h0 => ?_⟩
  obtain ⟨b, off, av0, rfl, hb, hc, ht⟩ := h3 h0
  have hl := (hc 0 h0).lt
  exact ⟨b, off, av0, rfl, (hp b hl hb).1, fun i h => (hc i h).block (hp b hl hb).2, fun i h => (ht i h).mono hp⟩
theorem TsAt.later {w w' : World} {v : Value} {l : List Tm} (h : TsAt (fun _ => True) w v l) (hb : Below w.heap.size w w') : TsAt (fun _ => True) w' v l :=
  h.mono fun b hl _ => ⟨trivial, hb.block b hl⟩
theorem TsAt.shape {p : Nat → Prop} {w : World} {v : Value} {l : List Tm} (h : TsAt p w v l) : ∃ ao cap, v = .slice ao l.length cap ∧ l.length ≤ cap ∧ cap ≤ maxLen := by
  obtain ⟨ao, cap, rfl, h1, h2, _⟩ := h; exact ⟨ao, cap, rfl, h1, h2⟩
theorem TsAt.get {p : Nat → Prop} {w : World} {ao : Option Addr} {n cap : Nat} {l : List Tm} (h : TsAt p w (.slice ao n cap) l) (i : Nat) (hi : i < l.length) :
    ∃ b off a, ao = some ⟨b, off, none⟩ ∧ p b ∧ CellsT w b (off + i * 4) l[i] a ∧ TmAt p w l[i] a := by
  obtain ⟨ao', cap', he, h1, h2, _, h3⟩ := h
  simp only [Value.slice.injEq] at he
  obtain ⟨rfl, rfl, rfl⟩ := he
  obtain ⟨b, off, av0, rfl, hb, hc, ht⟩ := h3 (by omega)
  exact ⟨b, off, av0 i, rfl, hb, hc i hi, ht i hi⟩
theorem TsAt.of_sl {p : Nat → Prop} {w : World} {v : Value} {n : Nat} {L : List (Tm × Value)} (hs : SlAt w 4 v n (tmCs L)) (hp : ∀ b, v.ownBlock = some b → p b) (hL : ∀ x ∈ L, TmAt p w x.1 x.2) : TsAt p w v (L.map Prod.fst) := by
  have hn : n = L.length := by have := hs.len; rw [tmCs_len] at this; omega
  obtain ⟨_, ao, cap, rfl, h2, h3, h5, h4⟩ := hs
  refine ⟨ao, cap, by simp [hn], by simpa [hn] using h2, h3, h5, fun h0 => ?_⟩
  obtain ⟨b, off, rfl, hlt, hc⟩ := h4 (by simp at h0; omega)
  refine ⟨b, off, fun i => (L[i]?.map Prod.snd).getD default, rfl, hp b rfl, fun i h => ?_, fun i h => ?_⟩
  · have hi : i < L.length := by simpa using h
    have hq := tmCs_at L i hi
    have e0 := hc (i * 4) (by omega)
    have e1 := hc (i * 4 + 1) (by omega)
    have e2 := hc (i * 4 + 2) (by omega)
    have e3 := hc (i * 4 + 3) (by omega)
    have q0 := hq 0 (by omega)
    rw [Nat.add_zero] at q0
    rw [q0] at e0
    rw [hq 1 (by omega)] at e1
    rw [hq 2 (by omega)] at e2
    rw [hq 3 (by omega)] at e3
    refine ⟨?_, ?_, ?_, ?_⟩
    · rw [e0]; simp [tmC]
    · rw [Nat.add_assoc, e1]; simp [tmC]
    · rw [Nat.add_assoc, e2]; simp [tmC]
    · rw [Nat.add_assoc, e3]; simp [tmC, hi]
  · have hi : i < L.length := by simpa using h
    have := hL L[i] (List.getElem_mem hi)
    simpa [hi] using this
theorem TmAt.of_ts {p : Nat → Prop} {w : World} {v : Value} {l : List Tm} {s : ByteArray} (h : TsAt p w v l) (h0 : 0 < l.length) : TmAt p w (.cmp s l) v := by
  obtain ⟨ao, cap, rfl, h1, h2, _, h3⟩ := h
  obtain ⟨b, off, av0, rfl, hb, hc, ht⟩ := h3 h0
  exact .node h0 h1 h2 hb hc ht
theorem TsAt.of_tm {p : Nat → Prop} {w : World} {v : Value} {t : Tm} (h : TmAt p w t v) : TsAt p w v t.args := by
  cases h with
  | leaf h => rw [h]; exact ⟨none, 0, rfl, Nat.le_refl _, by simp [maxLen], fun _ => rfl, fun h => by simp at h⟩
  | node h0 h1 h2 h3 h4 h5 => exact ⟨_, _, rfl, h1, h2, (fun h => by cases h), fun _ => ⟨_, _, _, rfl, h3, h4, h5⟩⟩
theorem TmAt.grow {p p' : Nat → Prop} {w w' : World} {t : Tm} {a : Value} (h : TmAt p w t a) (hb : Below w.heap.size w w') (hp : ∀ b, b < w.heap.size → p b → p' b) : TmAt p' w' t a :=
  h.mono fun b hl hpb => ⟨hp b hl hpb, hb.block b hl⟩
theorem TsAt.grow {p p' : Nat → Prop} {w w' : World} {v : Value} {l : List Tm} (h : TsAt p w v l) (hb : Below w.heap.size w w') (hp : ∀ b, b < w.heap.size → p b → p' b) : TsAt p' w' v l :=
  h.mono fun b hl hpb => ⟨hp b hl hpb, hb.block b hl⟩
/-- the cells of a list of terms -/
theorem TsAt.to_sl {p : Nat → Prop} {w : World} {v : Value} {l : List Tm} (h : TsAt p w v l) : ∃ L : List (Tm × Value), L.map Prod.fst = l ∧ SlAt w 4 v l.length (tmCs L) ∧ ∀ x ∈ L, TmAt p w x.1 x.2 := by
  by_cases h0 : 0 < l.length
  · obtain ⟨ao, cap, rfl, h1, h2, _, h3⟩ := h
    obtain ⟨b, off, av0, rfl, hb, hc, ht⟩ := h3 h0
    have hl := (hc 0 h0).lt
    refine ⟨l.mapIdx fun i t => (t, av0 i), ?_, ⟨by rw [tmCs_len, List.length_mapIdx], _, cap, rfl, h1, h2, (fun h => by cases h), fun _ => ⟨b, off, rfl, hl, fun j hj => ?_⟩⟩, fun x hx => ?_⟩
    · apply List.ext_getElem
      · simp
      · intro i h1 h2; simp
    · have hi : j / 4 < l.length := by omega
      have hil : j / 4 < (l.mapIdx fun i t => (t, av0 i)).length := by simpa using hi
      have hq := tmCs_at _ (j / 4) hil (j % 4) (by omega)
      rw [show j / 4 * 4 + j % 4 = j by omega] at hq
      rw [hq]
      have hcc := hc (j / 4) hi
      have e : (l.mapIdx fun i t => (t, av0 i))[j / 4] = (l[j / 4], av0 (j / 4)) := by simp
      rw [e]
      have hm : j % 4 = 0 ∨ j % 4 = 1 ∨ j % 4 = 2 ∨ j % 4 = 3 := by omega
      rcases hm with hm | hm | hm | hm
      · rw [hm, show off + j = off + j / 4 * 4 by omega, hcc.c0]; rfl
      · rw [hm, show off + j = off + j / 4 * 4 + 1 by omega, hcc.c1]; rfl
      · rw [hm, show off + j = off + j / 4 * 4 + 2 by omega, hcc.c2]; rfl
      · rw [hm, show off + j = off + j / 4 * 4 + 3 by omega, hcc.c3]; rfl
    · obtain ⟨i, hi, rfl⟩ := List.getElem_of_mem hx
      have hi' : i < l.length := by simpa using hi
      simpa using ht i hi'
  · obtain ⟨ao, cap, rfl, h1, h2, hn, h3⟩ := h
    have hl : l = [] := List.eq_nil_of_length_eq_zero (by omega)
    subst hl
    exact ⟨[], rfl, ⟨rfl, ao, cap, rfl, h1, h2, hn, fun h => by simp at h⟩, by simp⟩
theorem tmV_cmp (s : ByteArray) (l : List Tm) (a : Value) : tmV (.cmp s l) a = .agg #[.int .i64 4, .int .i64 0, .string s, a] := rfl
theorem TmAt.shapeC {p : Nat → Prop} {w : World} {s : ByteArray} {l : List Tm} {a : Value} (h : TmAt p w (.cmp s l) a) : ∃ ao cap, a = .slice ao l.length cap ∧ l.length ≤ cap ∧ cap ≤ maxLen := h.shape
end Go.Proofs.Ytmffobadnmkpbaa
namespace Go.Proofs.Ytmffobadnmkpbaa
open Go.RowKit

theorem own_below {w w' : World} {B e size n : Nat} {v : Value} {xs : List Value} (h : w.ownsRow B e size v n xs) (hb : Below w.heap.size w w') : w'.ownsRow B e size v n xs := by
  refine ⟨h.1, ?_⟩
  rcases h.2 with hn | ⟨g, cap, cur, rfl, hg, hgg, rest⟩
  · exact .inl hn
  · exact .inr ⟨g, cap, cur, rfl, hg, (hb.block g (Array.getElem?_eq_some_iff.1 hgg).1).trans hgg, rest⟩
end Go.Proofs.Ytmffobadnmkpbaa
namespace Go.Proofs.Ytmffobadnmkpbaa
open Go.RowKit

theorem Try.infoTerm : (Try.prog.info? 24).map (fun i => (i.zero, i.size, i.bytes)) = some (some (.agg #[.int .i64 0, .int .i64 0, .string ByteArray.empty, .slice none 0 0]), 4, 56) := by kernel_rfl
theorem SlAt.lit (w : World) (cs : Array Value) (T : TypeId) (k n : Nat) (h : cs.size = n * k) (hn : n ≤ maxLen) : SlAt (w.alloc (.cells cs T)) k (.slice (some ⟨w.heap.size, 0, none⟩) n n) n cs.toList := by
  refine ⟨by simpa using h, _, n, rfl, Nat.le_refl _, hn, (fun h => by cases h), fun hp => ⟨_, 0, rfl, by simp, fun j hj => ?_⟩⟩
  simp
/-- a block that is such, or new -/
def OrNew (p : Nat → Prop) (w : World) (b : Nat) : Prop := p b ∨ w.heap.size ≤ b
def RetT (p : Nat → Prop) (t : Tm) (w : World) (e : Ending) (w' : World) : Prop := ∃ a, e = .returned (tmV t a) ∧ TmAt (OrNew p w) w' t a ∧ Below w.heap.size w w'
theorem atom_c (p : Nat → Prop) (s : ByteArray) (w : World) : Calls Try.prog 156 #[.string s] w (RetT p (.atom s) w) := by
  go_enter Try.func156, Try.ntmps156
  go_wp2
  exact bodyPost_ret (v := tmV (.atom s) (.slice none 0 0)) (by simp [results, Try.results156, go_sem, tmV, Tm.kind, Tm.num, Tm.name]) rfl ⟨_, rfl, .leaf rfl, (Below.refl _ _).alloc (Nat.le_refl _) _⟩
theorem tmCs_one {L : List (Tm × Value)} {p : Nat → Prop} {w : World} (h : ∀ x ∈ L, TmAt p w x.1 x.2) : ∀ u ∈ tmCs L, u.oneCell' = true := by
  intro u hu
  obtain ⟨x, hx, hu⟩ := List.mem_flatMap.1 hu
  obtain ⟨ao, cap, ha, _⟩ := (h x hx).shape
  simp only [tmC, List.mem_cons, List.not_mem_nil, or_false] at hu
  rcases hu with rfl | rfl | rfl | rfl
  · rfl
  · rfl
  · rfl
  · rw [ha]; rfl
theorem own_zero {w : World} {base : Nat} {e : TypeId} {v : Value} {n : Nat} {xs : List Value} (h : w.ownsRow base e 4 v (0 + n) ([] ++ xs)) : w.ownsRow base e 4 v n xs := by simpa using h
theorem own_made2 (w : World) (o : Obj) (e : TypeId) : ((w.alloc o).alloc (.cells #[] e)).ownsRow (w.heap.size + 1) e 4 (.slice (some ⟨w.heap.size + 1, 0, none⟩) 0 0) 0 [] := by
  have h := World.ownsRow_made (base := w.heap.size + 1) (size := 4) (e := e) (w.alloc o) #[] 0 (by simp) (by decide) rfl
  simpa using h
/-- the result's cells, where they lie behind what was made -/
theorem cells_old {w w' : World} {cs : Array Value} {T : TypeId} (h : Below (w.heap.size + 1) (w.alloc (.cells cs T)) w') : BoxL w' w.heap.size cs.toList := by
  refine (BoxL.mk' w cs T).block (h.block _ (by omega))
theorem retT_cmp {p : Nat → Prop} {s : ByteArray} {l : List Tm} {L : List (Tm × Value)} {w w0 w1 W : World} {v' : Value} {o : Obj} (h0 : 0 < l.length) (hL : L.map Prod.fst = l) (hT : ∀ x ∈ L, TmAt p w x.1 x.2)
    (hown : w1.ownsRow (w.heap.size + 1) 24 4 v' l.length (tmCs L)) (hb0 : Below (w.heap.size + 1) (w.alloc o) w1) (hW : ∀ b, b ≠ w.heap.size → W.heap[b]? = w1.heap[b]?) (hB : Below w.heap.size w1 W) (_h : w0 = w) :
    TmAt (OrNew p w) W (.cmp s l) v' ∧ Below w.heap.size w W := by
  have hbw : Below w.heap.size w w1 := ((Below.refl _ _).alloc (Nat.le_refl _) o).trans (hb0.mono (by omega))
  refine ⟨?_, hbw.trans hB⟩
  have hts : TsAt (fun b => OrNew p w b ∧ b ≠ w.heap.size) w1 v' (L.map Prod.fst) := by
    refine TsAt.of_sl (SlAt.of_own hown) (fun b hb => ?_) (fun x hx => ?_)
    · have := (hown.lt b hb).1
      exact ⟨.inr (by omega), by omega⟩
    · refine (hT x hx).mono fun b hl hp => ⟨⟨.inl hp, by omega⟩, hbw.block b hl⟩
  rw [hL] at hts
  exact TmAt.of_ts (hts.mono fun b _ hb => ⟨hb.1, hW b hb.2⟩) h0
set_option maxRecDepth 100000 in
set_option maxHeartbeats 800000 in
theorem cmp_c (p : Nat → Prop) (s : ByteArray) (v : Value) (l : List Tm) (w : World) (hl : TsAt p w v l) (h0 : 0 < l.length) (hb : l.length ≤ 100000) : Calls Try.prog 160 #[.string s, v] w (RetT p (.cmp s l) w) := by
  obtain ⟨i0, hi, hz0, hz1, hz2⟩ := info_parts Try.infoTerm
  obtain ⟨L, hL, hs, ht⟩ := hl.to_sl
  obtain ⟨ao, cap, rfl, _⟩ := hs.shape
  have HL := Lib.hid hL
  have HS := Lib.hid hs
  have HT := Lib.hid ht
  clear hL hs ht hl
  go_enter Try.func160, Try.ntmps160
  go_wp2_with (first
    | (at_builtin; (refine wpList_append_sl rfl (.tmp 8) (.tmp 9) 22 rfl (w.heap.size + 1) 24 i0 (.agg #[.int .i64 0, .int .i64 0, .string ByteArray.empty, .slice none 0 0]) 4 56 Try.underlying22 hi hz0 hz1 hz2 rfl (by decide) _ 0 [] rfl ?_ _ l.length (tmCs L) rfl ?_ (tmCs_one HT.out) ⟨by omega, by omega⟩ ?_ ?_; (· exact own_made2 w _ _); (· exact (HS.out.alloc _).alloc _); (· simp); intro v' w1 hown hbel _; have hown2 := own_zero hown; clear hown; obtain ⟨oa1, oc1, rfl, _⟩ := (SlAt.of_own hown2).shape; have HO := Lib.hid hown2; clear hown2; have HB := Lib.hid (((Below.refl (w.heap.size + 1) _).alloc (by simp) _).trans hbel); obtain ⟨x0, fx0⟩ := (cells_old HB.out).get 0 rfl; obtain ⟨x1, fx1⟩ := (cells_old HB.out).get 1 rfl; obtain ⟨x2, fx2⟩ := (cells_old HB.out).get 2 rfl; obtain ⟨x3, fx3⟩ := (cells_old HB.out).get 3 rfl; clear hbel)))
  have hfin := retT_cmp (s := s) (W := (((w1.setCell ⟨w.heap.size, 0, none⟩ (.int .i64 4)).setCell ⟨w.heap.size, 1, none⟩ (.int .i64 0)).setCell ⟨w.heap.size, 2, none⟩ (.string s)).setCell ⟨w.heap.size, 3, none⟩ (.slice oa1 l.length oc1)) h0 HL.out HT.out HO.out HB.out (fun b hb => by rw [Below.heap_setCell _ _ _ _ hb, Below.heap_setCell _ _ _ _ hb, Below.heap_setCell _ _ _ _ hb, Below.heap_setCell _ _ _ _ hb]) ((((Below.refl _ _).setCell (p := ⟨w.heap.size, 0, none⟩) (Nat.le_refl _) _).setCell (p := ⟨w.heap.size, 1, none⟩) (Nat.le_refl _) _).setCell (p := ⟨w.heap.size, 2, none⟩) (Nat.le_refl _) _ |>.setCell (p := ⟨w.heap.size, 3, none⟩) (Nat.le_refl _) _) (rfl : w = w)
  refine bodyPost_ret (v := tmV (.cmp s l) (.slice oa1 l.length oc1)) ?_ rfl ⟨_, rfl, hfin.1, hfin.2⟩

  simp [results, Try.results160, go_sem, tmV, Tm.kind, Tm.num, Tm.name, x0, x1, x2, x3]
/-- a term stored into four cells -/
def put4 (W : World) (B : Nat) (t : Tm) (a : Value) : World := (((W.setCell ⟨B, 0, none⟩ (.int .i64 t.kind)).setCell ⟨B, 1, none⟩ (.int .i64 t.num)).setCell ⟨B, 2, none⟩ (.string t.name)).setCell ⟨B, 3, none⟩ a
theorem put4_heap (W : World) (B : Nat) (t : Tm) (a : Value) (b : Nat) (hb : b ≠ B) : (put4 W B t a).heap[b]? = W.heap[b]? := by
  unfold put4
  rw [Below.heap_setCell _ _ _ _ hb, Below.heap_setCell _ _ _ _ hb, Below.heap_setCell _ _ _ _ hb, Below.heap_setCell _ _ _ _ hb]
theorem put4_below {base : Nat} {w W : World} (h : Below base w W) {B : Nat} (hB : base ≤ B) (t : Tm) (a : Value) : Below base w (put4 W B t a) :=
  (((h.setCell (p := ⟨B, 0, none⟩) hB _).setCell (p := ⟨B, 1, none⟩) hB _).setCell (p := ⟨B, 2, none⟩) hB _).setCell (p := ⟨B, 3, none⟩) hB _
theorem put4_size (W : World) (B : Nat) (t : Tm) (a : Value) : (put4 W B t a).heap.size = W.heap.size := by simp [put4, World.setCell]
theorem TmAt.put {p p' : Nat → Prop} {W : World} {t t' : Tm} {a a' : Value} {B : Nat} (h : TmAt p W t a) (hp : ∀ b, b < W.heap.size → p b → p' b ∧ b ≠ B) : TmAt p' (put4 W B t' a') t a :=
  h.mono fun b hl hb => ⟨(hp b hl hb).1, put4_heap _ _ _ _ _ (hp b hl hb).2⟩
theorem new_not {p : Nat → Prop} {w W : World} {k b : Nat} (h : OrNew (fun b => p b ∧ b < w.heap.size ∨ k + 1 ≤ b) W b) (hk : w.heap.size ≤ k := by omega) (hW : k < W.heap.size := by (simp; try omega)) : OrNew p w b ∧ b ≠ k := by
  rcases h with (⟨h1, h2⟩ | h) | h
  · exact ⟨.inl h1, by omega⟩
  · exact ⟨.inr (by omega), by omega⟩
  · exact ⟨.inr (by omega), by omega⟩
/-- the result's cells, behind a block and a call -/
theorem cells_kept {w w' : World} {cs : Array Value} {T : TypeId} {o : Obj} (h : Below ((w.alloc (.cells cs T)).alloc o).heap.size ((w.alloc (.cells cs T)).alloc o) w') (B : Nat) (hB : w.heap.size = B) : BoxL w' B cs.toList := by
  subst hB
  exact ((BoxL.mk' w cs T).block (Below.heap_alloc _ _ _ (by simp))).block (h.block _ (by simp; omega))
set_option maxRecDepth 100000 in
set_option maxHeartbeats 800000 in
theorem one_c (p : Nat → Prop) (s : ByteArray) (t : Tm) (a : Value) (w : World) (ht : TmAt p w t a) : Calls Try.prog 157 #[.string s, tmV t a] w (RetT p (.cmp s [t]) w) := by
  obtain ⟨ao, cap, rfl, _⟩ := ht.shape
  generalize t.args.length = n at *
  obtain ⟨K, hK⟩ : ∃ K, K = t.kind := ⟨_, rfl⟩
  obtain ⟨N, hN⟩ : ∃ N, N = t.num := ⟨_, rfl⟩
  obtain ⟨S, hS⟩ : ∃ S, S = t.name := ⟨_, rfl⟩
  have HC : Hid (∀ W, Below w.heap.size w W → W.heap.size = w.heap.size + 2 → Calls Try.prog 160 #[.string s, .slice (some ⟨w.heap.size + 2, 0, none⟩) 1 1] (W.alloc (.cells #[.int .i64 t.kind, .int .i64 t.num, .string t.name, .slice ao n cap] 24)) (RetT (fun b => p b ∧ b < w.heap.size ∨ w.heap.size + 2 ≤ b) (.cmp s [t]) (W.alloc (.cells #[.int .i64 t.kind, .int .i64 t.num, .string t.name, .slice ao n cap] 24)))) := fun W hW hs => by
    refine cmp_c _ s _ [t] _ ?_ (by simp) (by simp)
    have h1 := SlAt.lit W #[.int .i64 t.kind, .int .i64 t.num, .string t.name, .slice ao n cap] 24 4 1 rfl (by simp [maxLen])
    rw [hs] at h1
    refine TsAt.of_sl (L := [(t, .slice ao n cap)]) h1 (fun b hb => ?_) (fun x hx => ?_)
    · simp only [Value.ownBlock, Option.some.injEq] at hb; exact .inr (by omega)
    · obtain rfl := List.mem_singleton.1 hx
      refine ht.mono fun b hl hp => ⟨.inl ⟨hp, hl⟩, ?_⟩
      rw [Below.heap_alloc _ _ _ (by omega), hW.block b hl]
  have HT := Lib.hid ht
  clear ht
  unfold tmV
  rw [← hK, ← hN, ← hS] at HC ⊢
  clear hK hN hS
  go_enter Try.func157, Try.ntmps157
  go_wp2_with (go_at_call 160; (refine (HC.out _ ?_ ?_).mono ?_); (· exact ((Below.refl _ _).alloc (Nat.le_refl _) _).alloc (by simp) _); (· simp); rintro e W5 ⟨a5, rfl, h5, b5⟩; obtain ⟨ao5, cap5, rfl, _⟩ := h5.shapeC; have H5 := Lib.hid h5; have B5 := Lib.hid b5; clear h5; rw [tmV_cmp]; obtain ⟨x0, fx0⟩ := (cells_kept B5.out (w.heap.size + 1) (by simp)).get 0 rfl; obtain ⟨x1, fx1⟩ := (cells_kept B5.out (w.heap.size + 1) (by simp)).get 1 rfl; obtain ⟨x2, fx2⟩ := (cells_kept B5.out (w.heap.size + 1) (by simp)).get 2 rfl; obtain ⟨x3, fx3⟩ := (cells_kept B5.out (w.heap.size + 1) (by simp)).get 3 rfl; clear b5)
  exact bodyPost_ret (v := tmV (.cmp s [t]) (.slice ao5 1 cap5)) (by simp [results, Try.results157, go_sem, tmV_cmp, x0, x1, x2, x3]) rfl
    ⟨_, rfl, H5.out.put (B := w.heap.size + 1) (t' := .cmp s [t]) (fun b _ hb => new_not hb), put4_below (((((Below.refl _ _).alloc (Nat.le_refl _) _).alloc (by simp) _).alloc (by simp; omega) _).trans (B5.out.mono (by simp; omega))) (Nat.le_succ _) (.cmp s [t]) _⟩
set_option maxRecDepth 100000 in
set_option maxHeartbeats 800000 in
theorem two_c (p : Nat → Prop) (s : ByteArray) (t u : Tm) (a b : Value) (w : World) (ht : TmAt p w t a) (hu : TmAt p w u b) : Calls Try.prog 135 #[.string s, tmV t a, tmV u b] w (RetT p (.cmp s [t, u]) w) := by
  obtain ⟨ao, cap, rfl, _⟩ := ht.shape
  obtain ⟨bo, bcap, rfl, _⟩ := hu.shape
  generalize t.args.length = n at *
  generalize u.args.length = m at *
  obtain ⟨K, hK⟩ : ∃ K, K = t.kind := ⟨_, rfl⟩
  obtain ⟨N, hN⟩ : ∃ N, N = t.num := ⟨_, rfl⟩
  obtain ⟨S, hS⟩ : ∃ S, S = t.name := ⟨_, rfl⟩
  obtain ⟨K2, hK2⟩ : ∃ K, K = u.kind := ⟨_, rfl⟩
  obtain ⟨N2, hN2⟩ : ∃ N, N = u.num := ⟨_, rfl⟩
  obtain ⟨S2, hS2⟩ : ∃ S, S = u.name := ⟨_, rfl⟩
  have HC : Hid (∀ W, Below w.heap.size w W → W.heap.size = w.heap.size + 3 → Calls Try.prog 160 #[.string s, .slice (some ⟨w.heap.size + 3, 0, none⟩) 2 2] (W.alloc (.cells #[.int .i64 t.kind, .int .i64 t.num, .string t.name, .slice ao n cap, .int .i64 u.kind, .int .i64 u.num, .string u.name, .slice bo m bcap] 24)) (RetT (fun b => p b ∧ b < w.heap.size ∨ w.heap.size + 3 ≤ b) (.cmp s [t, u]) (W.alloc (.cells #[.int .i64 t.kind, .int .i64 t.num, .string t.name, .slice ao n cap, .int .i64 u.kind, .int .i64 u.num, .string u.name, .slice bo m bcap] 24)))) := fun W hW hs => by
    refine cmp_c _ s _ [t, u] _ ?_ (by simp) (by simp)
    have h1 := SlAt.lit W #[.int .i64 t.kind, .int .i64 t.num, .string t.name, .slice ao n cap, .int .i64 u.kind, .int .i64 u.num, .string u.name, .slice bo m bcap] 24 4 2 rfl (by simp [maxLen])
    rw [hs] at h1
    refine TsAt.of_sl (L := [(t, .slice ao n cap), (u, .slice bo m bcap)]) h1 (fun b hb => ?_) (fun x hx => ?_)
    · simp only [Value.ownBlock, Option.some.injEq] at hb; exact .inr (by omega)
    · have hx' : x = (t, .slice ao n cap) ∨ x = (u, .slice bo m bcap) := by simpa using hx
      rcases hx' with rfl | rfl
      · refine ht.mono fun b hl hp => ⟨.inl ⟨hp, hl⟩, ?_⟩
        rw [Below.heap_alloc _ _ _ (by omega), hW.block b hl]
      · refine hu.mono fun b hl hp => ⟨.inl ⟨hp, hl⟩, ?_⟩
        rw [Below.heap_alloc _ _ _ (by omega), hW.block b hl]
  clear ht hu
  unfold tmV
  rw [← hK, ← hN, ← hS, ← hK2, ← hN2, ← hS2] at HC ⊢
  clear hK hN hS hK2 hN2 hS2
  go_enter Try.func135, Try.ntmps135
  go_wp2_with (go_at_call 160; (refine (HC.out _ ?_ ?_).mono ?_); (· exact (((Below.refl _ _).alloc (Nat.le_refl _) _).alloc (by simp) _).alloc (by simp; omega) _); (· simp); rintro e W5 ⟨a5, rfl, h5, b5⟩; obtain ⟨ao5, cap5, rfl, _⟩ := h5.shapeC; have H5 := Lib.hid h5; have B5 := Lib.hid b5; clear h5; rw [tmV_cmp]; obtain ⟨x0, fx0⟩ := (cells_kept B5.out (w.heap.size + 2) (by simp)).get 0 rfl; obtain ⟨x1, fx1⟩ := (cells_kept B5.out (w.heap.size + 2) (by simp)).get 1 rfl; obtain ⟨x2, fx2⟩ := (cells_kept B5.out (w.heap.size + 2) (by simp)).get 2 rfl; obtain ⟨x3, fx3⟩ := (cells_kept B5.out (w.heap.size + 2) (by simp)).get 3 rfl; clear b5)
  exact bodyPost_ret (v := tmV (.cmp s [t, u]) (.slice ao5 2 cap5)) (by simp [results, Try.results135, go_sem, tmV_cmp, x0, x1, x2, x3]) rfl
    ⟨_, rfl, H5.out.put (B := w.heap.size + 2) (t' := .cmp s [t, u]) (fun b _ hb => new_not hb), put4_below ((((((Below.refl _ _).alloc (Nat.le_refl _) _).alloc (by simp) _).alloc (by simp; omega) _).alloc (by simp; omega) _).trans (B5.out.mono (by simp; omega))) (by omega) (.cmp s [t, u]) _⟩
end Go.Proofs.Ytmffobadnmkpbaa
namespace Go.Proofs.Ytmffobadnmkpbaa
open Go.RowKit

theorem wpList_appendX {P : Program} {w0 : World} {ops : Array Oper} {rest : List Oper} {o : Oper} {a : Act} {Q : Exit → Act → World → Prop} (hgd : o.guard = none) (s x : Operand) (t : TypeId)
    (ho : o.op = .call { callee := .builtin .append, args := #[s, x], argTypes := #[t, t] })
    (base : Nat) (e : TypeId) (i : TypeInfo) (z : Value) (size bytes : Nat) (ht : P.underlying t = some (.slice e)) (hi : P.info? e = some i) (hz : i.zero = some z)
    (hsize : i.size = size) (hby : i.bytes = bytes) (hzs : z.cells.size = size) (hsz : 0 < size)
    (v : Value) (n : Nat) (xs : List Value) (hs : a.eval s = v) (hown : w0.ownsRow base e size v n xs) {e' : TypeId}
    (us : Array Value) (H : Nat) (hx : a.eval x = .slice (some ⟨H, 0, none⟩) 1 1) (hH : w0.heap.size = H) (hus : us.size = size) (h1 : ∀ u ∈ us.toList, u.oneCell' = true)
    (hbytes : (n + 1) * bytes ≤ 140737488355328 ∧ n + 1 ≤ 140737488355328) (hbase : base ≤ w0.heap.size)
    (h : ∀ g cap w', w'.ownsRow base e size (.slice (some ⟨g, 0, none⟩) (n + 1) cap) (n + 1) (xs ++ us.toList) → Below base w0 w' → KeepsBut w0 w' v → (v.ownBlock = some g ∨ w0.heap.size ≤ g) → wpList P ops Q rest (a.put o.dst (.slice (some ⟨g, 0, none⟩) (n + 1) cap)) w') :
    wpList P ops Q (o :: rest) a (w0.alloc (.cells us e')) := by
  subst hH
  refine wpList_append_lies _ hgd s x t ho base e i z size bytes ht hi hz hsize hby hzs hsz v n xs hs (hown.alloc _) ⟨w0.heap.size, 0, none⟩ 1 1 us.toList hx (by simp [hus]) ?_ h1 (by decide) ?_ hbytes.1 ?_ _ rfl ?_
  · intro j y hj
    have hadd : ((⟨w0.heap.size, 0, none⟩ : Addr).add j) = ⟨w0.heap.size, 0 + j, none⟩ := Go.WideShapes.add_plain _ _ _
    rw [hadd]
    simpa using hj
  · unfold maxLen; omega
  · simp; omega
  · intro g cap w' r1 r2 r3 _
    refine h g cap w' r1 (below_grown hbase r2 (ownBlock_ge hown)) (fun b hb hne => ?_) ?_
    · rw [r2.block b (by simp; omega) (fun he => hne he.symm)]
      exact Below.heap_alloc w0 _ b hb
    · rcases r3 with r3 | r3
      · exact .inl r3
      · right; rw [r3]; simp
theorem step_appendX {P : Program} {ops : Array Oper} {o : Oper} {a : Act} {w : World} {K : Act → World → Prop} {Q : Exit → Act → World → Prop} {E : Prop} (hgd : o.guard = none) (s x : Operand) (t : TypeId)
    (ho : o.op = .call { callee := .builtin .append, args := #[s, x], argTypes := #[t, t] })
    (base : Nat) (e : TypeId) (i : TypeInfo) (z : Value) (size bytes : Nat) (ht : P.underlying t = some (.slice e)) (hi : P.info? e = some i) (hz : i.zero = some z)
    (hsize : i.size = size) (hby : i.bytes = bytes) (hzs : z.cells.size = size) (hsz : 0 < size)
    (v : Value) (n : Nat) (xs : List Value) (hs : a.eval s = v) (hown : w.ownsRow base e size v n xs)
    (us : List Value) (g : Nat) (hx : a.eval x = .slice (some ⟨g, 0, none⟩) 1 1) (hc : ∀ j u, us[j]? = some u → w.cell? ⟨g, j, none⟩ = some u) (hus : us.length = size) (h1 : ∀ u ∈ us, u.oneCell' = true)
    (hbytes : (n + 1) * bytes ≤ 140737488355328 ∧ n + 1 ≤ 140737488355328) (hbase : base ≤ w.heap.size)
    (h : ∀ g cap w', w'.ownsRow base e size (.slice (some ⟨g, 0, none⟩) (n + 1) cap) (n + 1) (xs ++ us) → Below base w w' → KeepsBut w w' v → (v.ownBlock = some g ∨ w.heap.size ≤ g) → K (a.put o.dst (.slice (some ⟨g, 0, none⟩) (n + 1) cap)) w') :
    if Region.wanted o (yielded ops a.tmps) = true then Oper.wp P o a w K Q else E := by
  refine step_append_lies w hgd s x t ho base e i z size bytes ht hi hz hsize hby hzs hsz v n xs hs hown ⟨g, 0, none⟩ 1 1 us hx (by simp [hus]) ?_ h1 (by decide) ?_ hbytes.1 hbase _ rfl ?_
  · intro j y hj
    have hadd : ((⟨g, 0, none⟩ : Addr).add j) = ⟨g, 0 + j, none⟩ := Go.WideShapes.add_plain _ _ _
    rw [hadd, Nat.zero_add]
    exact hc j y hj
  · unfold maxLen; omega
  · intro g cap w' r1 r2 r3 _
    exact h g cap w' r1 ((Below.refl base w).grown r2 hbase (ownBlock_ge hown)) (fun b hb hne => r2.block b hb (fun he => hne he.symm)) (by rcases r3 with r3 | r3; (· exact .inl r3); (· right; omega))
end Go.Proofs.Ytmffobadnmkpbaa
namespace Go.Proofs.Ytmffobadnmkpbaa
open Go.RowKit

structure Tok where
  kind : Int
  text : ByteArray
  lo : Int
  hi : Int
def tkV (t : Tok) : Value := .agg #[.int .i64 t.kind, .string t.text, .int .i64 t.lo, .int .i64 t.hi]
def tkC (t : Tok) : List Value := [.int .i64 t.kind, .string t.text, .int .i64 t.lo, .int .i64 t.hi]
def tkCs (l : List Tok) : List Value := l.flatMap tkC
theorem tkCs_len (l : List Tok) : (tkCs l).length = l.length * 4 := by
  induction l with
  | nil => rfl
  | cons a l ih => simp only [tkCs, List.flatMap_cons, List.length_append, List.length_cons] at *; rw [ih]; simp [tkC]; omega
theorem tkCs_snoc (a : List Tok) (t : Tok) : tkCs (a ++ [t]) = tkCs a ++ [.int .i64 t.kind, .string t.text, .int .i64 t.lo, .int .i64 t.hi] := by simp [tkCs, tkC]
theorem tkCs_at (l : List Tok) (i : Nat) (h : i < l.length) : ∀ j, j < 4 → (tkCs l)[i * 4 + j]? = (tkC l[i])[j]? := by
  induction l generalizing i with
  | nil => simp at h
  | cons a l ih =>
    intro j hj
    have e : tkCs (a :: l) = tkC a ++ tkCs l := by simp [tkCs]
    have hl : (tkC a).length = 4 := rfl
    cases i with
    | zero => rw [e, List.getElem?_append_left (by omega)]; simp
    | succ i =>
      rw [e, List.getElem?_append_right (by omega), hl, show (i + 1) * 4 + j - 4 = i * 4 + j by omega, ih i (by simpa using h) j hj]
      simp
structure CellsK (w : World) (b o : Nat) (t : Tok) : Prop where
  c0 : w.cell? ⟨b, o, none⟩ = some (.int .i64 t.kind)
  c1 : w.cell? ⟨b, o + 1, none⟩ = some (.string t.text)
  c2 : w.cell? ⟨b, o + 2, none⟩ = some (.int .i64 t.lo)
  c3 : w.cell? ⟨b, o + 3, none⟩ = some (.int .i64 t.hi)
theorem CellsK.block {w w' : World} {b o : Nat} {t : Tok} (h : CellsK w b o t) (e : w'.heap[b]? = w.heap[b]?) : CellsK w' b o t :=
  ⟨(World.cell?_of_block (a := ⟨b, o, none⟩) e).trans h.c0, (World.cell?_of_block (a := ⟨b, o + 1, none⟩) e).trans h.c1, (World.cell?_of_block (a := ⟨b, o + 2, none⟩) e).trans h.c2, (World.cell?_of_block (a := ⟨b, o + 3, none⟩) e).trans h.c3⟩
theorem CellsK.lt {w : World} {b o : Nat} {t : Tok} (h : CellsK w b o t) : b < w.heap.size := World.block_lt_of_cell? w ⟨b, o, none⟩ h.c0
/-- a list of tokens, in a block below B -/
def TkAt (B : Nat) (w : World) (v : Value) (l : List Tok) : Prop :=
  ∃ ao cap, v = .slice ao l.length cap ∧ l.length ≤ cap ∧ cap ≤ maxLen ∧ (0 < l.length → ∃ b off, ao = some ⟨b, off, none⟩ ∧ b < B ∧ ∀ i, (h : i < l.length) → CellsK w b (off + i * 4) l[i])
theorem TkAt.mono {B : Nat} {w w' : World} {v : Value} {l : List Tok} (h : TkAt B w v l) (hb : ∀ b, b < B → b < w.heap.size → w'.heap[b]? = w.heap[b]?) : TkAt B w' v l := by
  obtain ⟨ao, cap, rfl, h1, h2, h3⟩ := h
  refine ⟨ao, cap, rfl, h1, h2, fun h0 => ?_⟩
  obtain ⟨b, off, rfl, hB, hc⟩ := h3 h0
  exact ⟨b, off, rfl, hB, fun i h => (hc i h).block (hb b hB (hc 0 h0).lt)⟩
theorem TkAt.shape {B : Nat} {w : World} {v : Value} {l : List Tok} (h : TkAt B w v l) : ∃ ao cap, v = .slice ao l.length cap ∧ l.length ≤ cap ∧ cap ≤ maxLen := by
  obtain ⟨ao, cap, rfl, h1, h2, _⟩ := h; exact ⟨ao, cap, rfl, h1, h2⟩
theorem TkAt.get {B : Nat} {w : World} {ao : Option Addr} {n cap : Nat} {l : List Tok} (h : TkAt B w (.slice ao n cap) l) (i : Nat) (hi : i < l.length) :
    ∃ b off, ao = some ⟨b, off, none⟩ ∧ b < B ∧ CellsK w b (off + i * 4) l[i] := by
  obtain ⟨ao', cap', he, h1, h2, h3⟩ := h
  simp only [Value.slice.injEq] at he
  obtain ⟨rfl, rfl, rfl⟩ := he
  obtain ⟨b, off, rfl, hb, hc⟩ := h3 (by omega)
  exact ⟨b, off, rfl, hb, hc i hi⟩
theorem TkAt.of_sl {B : Nat} {w : World} {v : Value} {n : Nat} {l : List Tok} (hs : SlAt w 4 v n (tkCs l)) (hB : w.heap.size ≤ B) : TkAt B w v l := by
  have hn : n = l.length := by have := hs.len; rw [tkCs_len] at this; omega
  subst hn
  obtain ⟨_, ao, cap, rfl, h2, h3, _, h4⟩ := hs
  refine ⟨ao, cap, rfl, h2, h3, fun h0 => ?_⟩
  obtain ⟨b, off, rfl, hlt, hc⟩ := h4 (by omega)
  refine ⟨b, off, rfl, by omega, fun i hi => ?_⟩
  have hq := tkCs_at l i hi
  have e0 := hc (i * 4) (by omega)
  have e1 := hc (i * 4 + 1) (by omega)
  have e2 := hc (i * 4 + 2) (by omega)
  have e3 := hc (i * 4 + 3) (by omega)
  have q0 := hq 0 (by omega)
  rw [Nat.add_zero] at q0
  rw [q0] at e0
  rw [hq 1 (by omega)] at e1
  rw [hq 2 (by omega)] at e2
  rw [hq 3 (by omega)] at e3
  refine ⟨?_, ?_, ?_, ?_⟩
  · rw [e0]; simp [tkC]
  · rw [Nat.add_assoc, e1]; simp [tkC]
  · rw [Nat.add_assoc, e2]; simp [tkC]
  · rw [Nat.add_assoc, e3]; simp [tkC]
end Go.Proofs.Ytmffobadnmkpbaa
namespace Go.Proofs.Ytmffobadnmkpbaa
open Go.RowKit

/-- all that stays: whatever is not the reader's struct nor its names' row -/
structure KR (B : Nat) (v : Value) (w : World) (v' : Value) (w' : World) : Prop where
  os : w'.os = w.os
  tape : w'.tape = w.tape
  output : w'.output = w.output
  size : w.heap.size ≤ w'.heap.size
  block : ∀ b, b < w.heap.size → b ≠ B → v.ownBlock ≠ some b → w'.heap[b]? = w.heap[b]?
  own : v'.ownBlock = v.ownBlock ∨ ∀ g, v'.ownBlock = some g → w.heap.size ≤ g
theorem KR.refl (B : Nat) (v : Value) (w : World) : KR B v w v w := ⟨rfl, rfl, rfl, Nat.le_refl _, fun _ _ _ _ => rfl, .inl rfl⟩
theorem KR.trans {B : Nat} {v v1 v2 : Value} {w w1 w2 : World} (h : KR B v w v1 w1) (k : KR B v1 w1 v2 w2) : KR B v w v2 w2 := by
  refine ⟨k.os.trans h.os, k.tape.trans h.tape, k.output.trans h.output, Nat.le_trans h.size k.size, fun b hb hB hv => ?_, ?_⟩
  · have h1 : v1.ownBlock ≠ some b := by
      rcases h.own with e | e
      · rw [e]; exact hv
      · intro he; have := e b he; omega
    rw [k.block b (Nat.lt_of_lt_of_le hb h.size) hB h1, h.block b hb hB hv]
  · rcases k.own with e | e
    · rw [e]; exact h.own
    · exact .inr fun g hg => Nat.le_trans h.size (e g hg)
theorem KR.of_below {B : Nat} {v : Value} {w w' : World} (h : Below w.heap.size w w') : KR B v w v w' := ⟨h.os, h.tape, h.output, h.size, fun b hb _ _ => h.block b hb, .inl rfl⟩
theorem KR.setB (B : Nat) (v : Value) (w : World) (k : Nat) (u : Value) : KR B v w v (w.setCell ⟨B, k, none⟩ u) :=
  ⟨rfl, rfl, rfl, by simp [World.setCell], fun b _ hB _ => Below.heap_setCell _ _ _ _ hB, .inl rfl⟩
theorem KR.below {B : Nat} {v v' : Value} {w w' : World} (h : KR B v w v' w') {base : Nat} (hw : base ≤ w.heap.size) (hB : base ≤ B) (hv : ∀ g, v.ownBlock = some g → base ≤ g) : Below base w w' :=
  ⟨h.os, h.tape, h.output, h.size, fun b hb => h.block b (by omega) (by omega) (fun e => by have := hv b e; omega)⟩
/-- a block that stays -/
def Gd (B : Nat) (v : Value) (w : World) (b : Nat) : Prop := b < w.heap.size ∧ b ≠ B ∧ v.ownBlock ≠ some b
theorem KR.good {B : Nat} {v v' : Value} {w w' : World} (h : KR B v w v' w') {b : Nat} (hb : Gd B v w b) : Gd B v' w' b ∧ w'.heap[b]? = w.heap[b]? := by
  obtain ⟨h1, h2, h3⟩ := hb
  refine ⟨⟨Nat.lt_of_lt_of_le h1 h.size, h2, ?_⟩, h.block b h1 h2 h3⟩
  rcases h.own with e | e
  · rw [e]; exact h3
  · intro he; have := e b he; omega
theorem TmAt.kr {B : Nat} {v v' : Value} {w w' : World} {t : Tm} {a : Value} (ht : TmAt (Gd B v w) w t a) (h : KR B v w v' w') : TmAt (Gd B v' w') w' t a := ht.mono fun _ _ hb => h.good hb
theorem TsAt.kr {B : Nat} {v v' : Value} {w w' : World} {l : List Tm} {a : Value} (ht : TsAt (Gd B v w) w a l) (h : KR B v w v' w') : TsAt (Gd B v' w') w' a l := ht.mono fun _ _ hb => h.good hb
theorem TmAt.gd {B : Nat} {v : Value} {w w' : World} {t : Tm} {a : Value} (ht : TmAt (OrNew (Gd B v w) w) w' t a) (hB : B < w.heap.size) (hv : ∀ g, v.ownBlock = some g → g < w.heap.size) : TmAt (Gd B v w') w' t a :=
  ht.mono fun b hl hb => by
    refine ⟨?_, rfl⟩
    rcases hb with ⟨_, h2, h3⟩ | hb
    · exact ⟨hl, h2, h3⟩
    · exact ⟨hl, by omega, fun e => by have := hv b e; omega⟩

structure RdAt (w : World) (B : Nat) (s : ByteArray) (lv : Value) (toks : List Tok) (k : Nat) (nv : Value) (ns : List ByteArray) (pl e : Int) : Prop where
  box : BoxL w B [.string s, lv, .int .i64 k, nv, .int .i64 pl, .int .i64 e]
  tks : TkAt B w lv toks
  nms : w.ownsRow (B + 1) 9 1 nv ns.length (ns.map Value.string)
  le : k ≤ toks.length
  nle : ns.length ≤ k
structure TksOk (s : ByteArray) (toks : List Tok) : Prop where
  ssize : s.size ≤ 4099
  len : toks.length ≤ 1000
  text : ∀ t ∈ toks, t.text.size ≤ 4096
def tokAt (s : ByteArray) (toks : List Tok) (k : Nat) : Tok := toks[k]?.getD ⟨0, ByteArray.empty, s.size, 0⟩
theorem tokAt_text {s : ByteArray} {toks : List Tok} (h : TksOk s toks) (k : Nat) : (tokAt s toks k).text.size ≤ 4096 := by
  unfold tokAt
  cases hk : toks[k]? with
  | none => simp
  | some t => exact h.text t (List.mem_of_getElem? hk)
theorem tokAt_kind {s : ByteArray} {toks : List Tok} {k : Nat} (h : (tokAt s toks k).kind ≠ 0) : k < toks.length := by
  rcases Nat.lt_or_ge k toks.length with g | g
  · exact g
  · exfalso; apply h; unfold tokAt; rw [List.getElem?_eq_none g]; rfl
theorem RdAt.lt {w : World} {B : Nat} {s : ByteArray} {lv : Value} {toks : List Tok} {k : Nat} {nv : Value} {ns : List ByteArray} {pl e : Int} (h : RdAt w B s lv toks k nv ns pl e) : B < w.heap.size := h.box.lt (by simp)
theorem RdAt.own_lt {w : World} {B : Nat} {s : ByteArray} {lv : Value} {toks : List Tok} {k : Nat} {nv : Value} {ns : List ByteArray} {pl e : Int} (h : RdAt w B s lv toks k nv ns pl e) : ∀ g, nv.ownBlock = some g → g < w.heap.size := fun g hg => (h.nms.lt g hg).2
theorem RdAt.own_ge {w : World} {B : Nat} {s : ByteArray} {lv : Value} {toks : List Tok} {k : Nat} {nv : Value} {ns : List ByteArray} {pl e : Int} (h : RdAt w B s lv toks k nv ns pl e) : ∀ g, nv.ownBlock = some g → B + 1 ≤ g := fun g hg => (h.nms.lt g hg).1
theorem RdAt.later {w w' : World} {B : Nat} {s : ByteArray} {lv : Value} {toks : List Tok} {k : Nat} {nv : Value} {ns : List ByteArray} {pl e : Int} (h : RdAt w B s lv toks k nv ns pl e) (hb : Below w.heap.size w w') : RdAt w' B s lv toks k nv ns pl e :=
  ⟨h.box.below hb h.lt, h.tks.mono fun b _ hl => hb.block b hl, own_below h.nms hb, h.le, h.nle⟩
theorem own_set {w : World} {base : Nat} {e : TypeId} {size : Nat} {v : Value} {n : Nat} {xs : List Value} (h : w.ownsRow base e size v n xs) {a : Addr} (ha : a.block < base) (u : Value) : (w.setCell a u).ownsRow base e size v n xs := own_setCell h ha u
theorem TkAt.set {B : Nat} {w : World} {v : Value} {l : List Tok} (h : TkAt B w v l) (k : Nat) (u : Value) : TkAt B (w.setCell ⟨B, k, none⟩ u) v l := h.mono fun b hb _ => Below.heap_setCell _ _ _ _ (by dsimp only; omega)
theorem RdAt.setAt {w : World} {B : Nat} {s : ByteArray} {lv : Value} {toks : List Tok} {k : Nat} {nv : Value} {ns : List ByteArray} {pl e : Int} (h : RdAt w B s lv toks k nv ns pl e) (hk : k < toks.length) : RdAt (w.setCell ⟨B, 2, none⟩ (.int .i64 ((k : Int) + 1))) B s lv toks (k + 1) nv ns pl e := by
  have h1 := h.box.set 2 (by simp) (.int .i64 ((k : Int) + 1))
  exact ⟨by simpa using h1, h.tks.set _ _, own_set h.nms (Nat.lt_succ_self _) _, hk, by have := h.nle; omega⟩
theorem RdAt.setPl {w : World} {B : Nat} {s : ByteArray} {lv : Value} {toks : List Tok} {k : Nat} {nv : Value} {ns : List ByteArray} {pl e : Int} (h : RdAt w B s lv toks k nv ns pl e) (x : Int) : RdAt (w.setCell ⟨B, 4, none⟩ (.int .i64 x)) B s lv toks k nv ns x e :=
  ⟨by simpa using h.box.set 4 (by simp) (.int .i64 x), h.tks.set _ _, own_set h.nms (Nat.lt_succ_self _) _, h.le, h.nle⟩
theorem RdAt.setE {w : World} {B : Nat} {s : ByteArray} {lv : Value} {toks : List Tok} {k : Nat} {nv : Value} {ns : List ByteArray} {pl e : Int} (h : RdAt w B s lv toks k nv ns pl e) (x : Int) : RdAt (w.setCell ⟨B, 5, none⟩ (.int .i64 x)) B s lv toks k nv ns pl x :=
  ⟨by simpa using h.box.set 5 (by simp) (.int .i64 x), h.tks.set _ _, own_set h.nms (Nat.lt_succ_self _) _, h.le, h.nle⟩
theorem RdAt.setNil {w : World} {B : Nat} {s : ByteArray} {lv : Value} {toks : List Tok} {k : Nat} {nv : Value} {ns : List ByteArray} {pl e : Int} (h : RdAt w B s lv toks k nv ns pl e) : RdAt (w.setCell ⟨B, 3, none⟩ (.slice none 0 0)) B s lv toks k (.slice none 0 0) [] pl e :=
  ⟨by simpa using h.box.set 3 (by simp) (.slice none 0 0), h.tks.set _ _, ⟨by simp, .inl ⟨rfl, rfl⟩⟩, h.le, by simp⟩
/-- the six cells, and their marks -/
structure Rd6 (w : World) (B : Nat) (s : ByteArray) (lv : Value) (k : Int) (nv : Value) (pl e : Int) : Prop where
  c0 : w.cell? ⟨B, 0, none⟩ = some (.string s)
  c1 : w.cell? ⟨B, 1, none⟩ = some lv
  c2 : w.cell? ⟨B, 2, none⟩ = some (.int .i64 k)
  c3 : w.cell? ⟨B, 3, none⟩ = some nv
  c4 : w.cell? ⟨B, 4, none⟩ = some (.int .i64 pl)
  c5 : w.cell? ⟨B, 5, none⟩ = some (.int .i64 e)
  f2 : w.frozen? ⟨B, 2, none⟩ = false
  f3 : w.frozen? ⟨B, 3, none⟩ = false
  f4 : w.frozen? ⟨B, 4, none⟩ = false
  f5 : w.frozen? ⟨B, 5, none⟩ = false
theorem RdAt.six {w : World} {B : Nat} {s : ByteArray} {lv : Value} {toks : List Tok} {k : Nat} {nv : Value} {ns : List ByteArray} {pl e : Int} (h : RdAt w B s lv toks k nv ns pl e) : Rd6 w B s lv k nv pl e :=
  ⟨(h.box.get 0 rfl).1, (h.box.get 1 rfl).1, (h.box.get 2 rfl).1, (h.box.get 3 rfl).1, (h.box.get 4 rfl).1, (h.box.get 5 rfl).1, (h.box.get 2 rfl).2, (h.box.get 3 rfl).2, (h.box.get 4 rfl).2, (h.box.get 5 rfl).2⟩

def RetTok (t : Tok) (w : World) (e : Ending) (w' : World) : Prop := e = .returned (.agg #[.int .i64 t.kind, .string t.text, .int .i64 t.lo, .int .i64 t.hi]) ∧ Below w.heap.size w w'
set_option maxRecDepth 100000 in
set_option maxHeartbeats 800000 in
theorem next_c {w : World} {B : Nat} {s : ByteArray} {lv : Value} {toks : List Tok} {k : Nat} {nv : Value} {ns : List ByteArray} {pl e : Int} (h : RdAt w B s lv toks k nv ns pl e) (hok : TksOk s toks) :
    Calls Try.prog 104 #[.pointer (some ⟨B, 0, none⟩)] w (RetTok (tokAt s toks k) w) := by
  obtain ⟨ao, cap, rfl, h1, h2⟩ := h.tks.shape
  have hss := hok.ssize
  have hll := hok.len
  have hB := h.lt
  have h6 := h.six
  by_cases hlt : k < toks.length
  · obtain ⟨b, off, rfl, hb, hc⟩ := h.tks.get k hlt
    have hT : tokAt s toks k = toks[k] := by unfold tokAt; rw [List.getElem?_eq_getElem hlt]; rfl
    rw [hT]
    have hl1 := hc.lt
    have j1 : (k : Int) < toks.length := by omega
    obtain ⟨x0, x1, x2, x3⟩ := hc
    generalize toks[k] = t at *
    obtain ⟨c0, c1, c2, c3, c4, c5, f2, f3, f4, f5⟩ := h6
    clear h hT hok
    go_enter Try.func104, Try.ntmps104
    go_wp2
    go_quiet (fail)
    go_wp2
    go_region
    all_goals go_wp2
    all_goals
      refine bodyPost_ret (v := .agg #[.int .i64 t.kind, .string t.text, .int .i64 t.lo, .int .i64 t.hi]) (by simp [results, Try.results104, go_sem]) rfl ⟨rfl, ?_⟩
      go_grown
      exact below_drewN ((Below.refl _ _).alloc (Nat.le_refl _) _) _
  · have hT : tokAt s toks k = ⟨0, ByteArray.empty, s.size, 0⟩ := by unfold tokAt; rw [List.getElem?_eq_none (by omega)]; rfl
    have hT2 : k = toks.length := by have := h.le; omega
    have j1 : ¬ (k : Int) < toks.length := by omega
    rw [hT]
    obtain ⟨c0, c1, c2, c3, c4, c5, f2, f3, f4, f5⟩ := h6
    clear h hT hok hT2
    go_enter Try.func104, Try.ntmps104
    go_wp2
    go_quiet (fail)
    go_wp2
    refine bodyPost_ret (v := .agg #[.int .i64 0, .string ⟨#[]⟩, .int .i64 s.size, .int .i64 0]) (by simp [results, Try.results104, go_sem]) rfl ⟨rfl, ?_⟩
    go_grown
    try exact below_drewN ((Below.refl _ _).alloc (Nat.le_refl _) _) _
end Go.Proofs.Ytmffobadnmkpbaa
