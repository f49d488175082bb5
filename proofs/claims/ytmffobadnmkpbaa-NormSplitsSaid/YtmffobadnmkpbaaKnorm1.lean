/-
  A LIST OF TERMS OF THE CALL'S OWN THAT GROWS: by one term, by a list of terms; one term stored into it. Over any program.
  norm.Name and norm.Control, and the document's, walked.
  coneyref10.Is and coneyref10.Control, walked.
  BODIES AND GOALS: in plain Lean.
  coneyref10.callable, walked.
-/
import Derived.Test.YtmffobadnmkpbaaKpars1
import Derived.Test.YtmffobadnmkpbaaKpars2
import Derived.Maps.AppendAt
import Derived.Test.YtmffobadnmkpbaaKtmn2
import Derived.Test.YtmffobadnmkpbaaKtmn1
import Derived.Deep.LoopGhost
import Derived.BigQuiet
import Derived.Handy
namespace Go.Proofs.Ytmffobadnmkpbaa
open Go.RowKit

/-- 'append(out, s...)', out the call's own, s whatever slice: telling where it lies -/
theorem wpList_append_slX {P : Program} {w0 : World} {ops : Array Oper} {rest : List Oper} {o : Oper} {a : Act} {Q : Exit → Act → World → Prop} (hgd : o.guard = none) (s x : Operand) (t : TypeId)
    (ho : o.op = .call { callee := .builtin .append, args := #[s, x], argTypes := #[t, t] })
    (base : Nat) (e : TypeId) (i : TypeInfo) (z : Value) (size bytes : Nat) (ht : P.underlying t = some (.slice e)) (hi : P.info? e = some i) (hz : i.zero = some z)
    (hsize : i.size = size) (hby : i.bytes = bytes) (hzs : z.cells.size = size) (hsz : 0 < size)
    (v : Value) (n : Nat) (xs : List Value) (hs : a.eval s = v) (hown : w0.ownsRow base e size v n xs)
    (vx : Value) (m : Nat) (ys : List Value) (hx : a.eval x = vx) (hsl : SlAt w0 size vx m ys) (h1 : ∀ u ∈ ys, u.oneCell' = true)
    (hbytes : (n + m) * bytes ≤ 140737488355328 ∧ n + m ≤ 140737488355328) (hbase : base ≤ w0.heap.size)
    (h : ∀ v' w', w'.ownsRow base e size v' (n + m) (xs ++ ys) → Below base w0 w' → KeepsBut w0 w' v → (v'.ownBlock = v.ownBlock ∨ v'.ownBlock = some w0.heap.size) → wpList P ops Q rest (a.put o.dst v') w') :
    wpList P ops Q (o :: rest) a w0 := by
  obtain ⟨hl, ao, cap, rfl, h2, h3, h5, h4⟩ := hsl
  cases ao with
  | none =>
    obtain rfl := h5 rfl
    obtain rfl : m = 0 := by omega
    obtain rfl : ys = [] := List.eq_nil_of_length_eq_zero (by omega)
    refine wpList_append_own_none hgd s x t ho base e i size ht hi v n xs hs hown hx ?_
    exact h v w0 (by simpa using hown) (Below.refl _ _) (fun _ _ _ => rfl) (.inl rfl)
  | some ad =>
    refine wpList_append_own_at w0 hgd s x t ho base e i z size bytes ht hi hz hsize hby hzs hsz v n xs hs hown ad m cap ys hx hl (fun j u hj => ?_) h1 (by unfold maxLen; omega) hbytes.1 hbase (fun v' w' r1 r2 _ r5 => h v' w' r1 ?_ (fun b hb hne => r2.block b hb (fun he => hne he.symm)) r5)
    · have hj' : j < m * size := by rw [← hl]; exact (List.getElem?_eq_some_iff.1 hj).1
      obtain ⟨b, off, he, _, hc⟩ := h4 (by omega)
      injection he with he; subst he
      rw [Go.WideShapes.add_plain, hc j hj', hj]
    · exact (Below.refl base w0).grown r2 hbase (ownBlock_ge hown)

/-- a list of terms in a row of the call's own; the terms' arguments lie elsewhere, in blocks that are such -/
structure OwnTs (p : Nat → Prop) (base : Nat) (w : World) (v : Value) (L : List (Tm × Value)) : Prop where
  own : w.ownsRow base 24 4 v L.length (tmCs L)
  tms : ∀ x ∈ L, TmAt (fun b => v.ownBlock ≠ some b ∧ p b) w x.1 x.2
theorem OwnTs.below {p : Nat → Prop} {base : Nat} {w w' : World} {v : Value} {L : List (Tm × Value)} (h : OwnTs p base w v L) (hb : Below w.heap.size w w') : OwnTs p base w' v L :=
  ⟨own_below h.own hb, fun x hx => (h.tms x hx).grow hb fun _ _ h => h⟩
theorem OwnTs.weaken {p p' : Nat → Prop} {base base' : Nat} {w : World} {v : Value} {L : List (Tm × Value)} (h : OwnTs p base w v L) (hb : base' ≤ base) (hp : ∀ b, p b → p' b) : OwnTs p' base' w v L := by
  refine ⟨⟨h.own.1, ?_⟩, fun x hx => (h.tms x hx).mono fun b _ hb' => ⟨⟨hb'.1, hp b hb'.2⟩, rfl⟩⟩
  rcases h.own.2 with hn | ⟨g, cap, cur, e, hg, rest⟩
  · exact .inl hn
  · exact .inr ⟨g, cap, cur, e, Nat.le_trans hb hg, rest⟩
theorem OwnTs.at {p : Nat → Prop} {base : Nat} {w : World} {v : Value} {L : List (Tm × Value)} (h : OwnTs p base w v L) : TsAt (fun _ => True) w v (L.map Prod.fst) :=
  TsAt.of_sl (SlAt.of_own h.own) (fun _ _ => trivial) (fun x hx => (h.tms x hx).any)
theorem OwnTs.shape {p : Nat → Prop} {base : Nat} {w : World} {v : Value} {L : List (Tm × Value)} (h : OwnTs p base w v L) : ∃ ao cap, v = .slice ao L.length cap ∧ L.length ≤ cap ∧ cap ≤ maxLen := (SlAt.of_own h.own).shape
/-- terms stay where a row that is none of theirs grows -/
theorem TmAt.keptBut {p : Nat → Prop} {w w' : World} {v v' : Value} {t : Tm} {a : Value} (h : TmAt (fun b => v.ownBlock ≠ some b ∧ p b) w t a) (hk : KeepsBut w w' v) (hp : ∀ g, v'.ownBlock = some g → v.ownBlock = some g ∨ w.heap.size ≤ g) : TmAt (fun b => v'.ownBlock ≠ some b ∧ p b) w' t a :=
  h.mono fun b hb hp' => ⟨⟨fun he => by rcases hp b he with e | e; (· exact hp'.1 e); (· omega), hp'.2⟩, hk b hb hp'.1⟩
theorem lies_or {w : World} {v v' : Value} (h : v'.ownBlock = v.ownBlock ∨ v'.ownBlock = some w.heap.size) : ∀ g, v'.ownBlock = some g → v.ownBlock = some g ∨ w.heap.size ≤ g := fun g hg => by
  rcases h with e | e
  · exact .inl (e ▸ hg)
  · rw [e] at hg; simp at hg; exact .inr (by omega)
theorem lies_at {w : World} {v : Value} {g n cap : Nat} (h : v.ownBlock = some g ∨ w.heap.size ≤ g) : ∀ k, (Value.slice (some ⟨g, 0, none⟩) n cap).ownBlock = some k → v.ownBlock = some k ∨ w.heap.size ≤ k := fun k hk => by
  have e : g = k := by simpa [Value.ownBlock] using hk
  subst e; exact h
theorem OwnTs.grow {p : Nat → Prop} {base : Nat} {w w' : World} {v v' : Value} {L X : List (Tm × Value)} (h : OwnTs p base w v L) (hX : ∀ x ∈ X, TmAt (fun b => v.ownBlock ≠ some b ∧ p b) w x.1 x.2)
    (ho : w'.ownsRow base 24 4 v' (L.length + X.length) (tmCs L ++ tmCs X)) (hk : KeepsBut w w' v) (hp : ∀ g, v'.ownBlock = some g → v.ownBlock = some g ∨ w.heap.size ≤ g) : OwnTs p base w' v' (L ++ X) := by
  refine ⟨by rw [tmCs_append]; simpa using ho, fun x hx => ?_⟩
  rcases List.mem_append.1 hx with hx | hx
  · exact (h.tms x hx).keptBut hk hp
  · exact (hX x hx).keptBut hk hp
/-- a term pushed by 'append' at one element laid just before -/
theorem OwnTs.push {p : Nat → Prop} {base : Nat} {w w' : World} {v : Value} {L : List (Tm × Value)} {t : Tm} {a : Value} {g cap : Nat} (h : OwnTs p base w v L) (ht : TmAt (fun b => v.ownBlock ≠ some b ∧ p b) w t a)
    (ho : w'.ownsRow base 24 4 (.slice (some ⟨g, 0, none⟩) (L.length + 1) cap) (L.length + 1) (tmCs L ++ (#[.int .i64 t.kind, .int .i64 t.num, .string t.name, a] : Array Value).toList)) (hk : KeepsBut w w' v) (hp : v.ownBlock = some g ∨ w.heap.size ≤ g) : OwnTs p base w' (.slice (some ⟨g, 0, none⟩) (L.length + 1) cap) (L ++ [(t, a)]) :=
  h.grow (X := [(t, a)]) (fun x hx => by simp only [List.mem_singleton] at hx; subst hx; exact ht) (by simpa [tmCs, tmC] using ho) hk (lies_at hp)
theorem OwnTs.made (p : Nat → Prop) (w : World) : OwnTs p w.heap.size (w.alloc (.cells #[] 24)) (.slice (some ⟨w.heap.size, 0, none⟩) 0 0) [] :=
  ⟨World.ownsRow_made (base := w.heap.size) (size := 4) (e := 24) w #[] 0 (by simp) (by decide) rfl, by simp⟩
theorem OwnTs.none (p : Nat → Prop) (base : Nat) (w : World) : OwnTs p base w (.slice Option.none 0 0) [] := ⟨⟨rfl, .inl ⟨rfl, rfl⟩⟩, by simp⟩
/-- what returns such a list of terms, in new memory -/
def RetOwnT (p : Nat → Prop) (G : List Tm) (w : World) (e : Ending) (w' : World) : Prop := ∃ ao cap Lv, e = .returned (.slice ao Lv.length cap) ∧ OwnTs (fun b => (p b ∧ b < w.heap.size) ∨ w.heap.size ≤ b) w.heap.size w' (.slice ao Lv.length cap) Lv ∧ Lv.map Prod.fst = G ∧ Below w.heap.size w w'
/-- a store into the row itself -/
theorem own_store {w : World} {base : Nat} {e : TypeId} {size g n cap : Nat} {xs : List Value} (h : w.ownsRow base e size (.slice (some ⟨g, 0, none⟩) n cap) n xs) (i : Nat) (_hi : i < n * size) (u : Value) :
    (w.setCell ⟨g, i, none⟩ u).ownsRow base e size (.slice (some ⟨g, 0, none⟩) n cap) n (xs.set i u) := by
  refine ⟨by rw [List.length_set]; exact h.1, .inr ?_⟩
  rcases h.2 with ⟨he, _⟩ | ⟨g', cap', cur, he, hg, hgg, h1, h2, h3, h4⟩
  · cases he
  · simp only [Value.slice.injEq, Option.some.injEq, Addr.mk.injEq, and_true] at he
    obtain ⟨rfl, _, rfl⟩ := he
    refine ⟨g, cap, cur.setIfInBounds i u, rfl, hg, ?_, h1, h2, by simpa using h3, ?_⟩
    · simp only [World.setCell]
      rw [Array.getElem?_modify, if_pos rfl, hgg]; rfl
    · rw [← h4, Array.toList_setIfInBounds, List.take_set]
end Go.Proofs.Ytmffobadnmkpbaa
namespace Go.Proofs.Ytmffobadnmkpbaa
open Go.RowKit

/-- is it an atom, or a compound term -/
def Tm.named (t : Tm) : Bool := decide (t.kind = 3) || decide (t.kind = 4)
def name3 (t : Tm) : Value := .tuple #[.string t.name, .int .i64 t.args.length, .bool t.named]
theorem Tm.kind_cases (t : Tm) : (t.kind = 3 ∧ t.args = [] ∧ t.named = true) ∨ (t.kind = 4 ∧ t.named = true) ∨ (t.kind ≠ 3 ∧ t.kind ≠ 4 ∧ t.name = ⟨#[]⟩ ∧ t.args = [] ∧ t.named = false) := by
  cases t <;> simp [Tm.kind, Tm.args, Tm.named, Tm.name] <;> rfl
set_option maxRecDepth 100000 in
theorem normName_c (t : Tm) (ao : Option Addr) (c : Nat) (w : World) :
    Calls Try.prog 38 #[.agg #[.int .i64 t.kind, .int .i64 t.num, .string t.name, .slice ao t.args.length c]] w fun e w' => e = .returned (.tuple #[.string t.name, .int .i64 t.args.length, .bool t.named]) ∧ Below w.heap.size w w' := by
  have HZ := Lib.hid (below_one w)
  rcases t.kind_cases with ⟨h1, h2, h3⟩ | ⟨h1, h3⟩ | ⟨h1, h2, h3, h4, h5⟩
  · rw [h1, h3]
    have hl : t.args.length = 0 := by rw [h2]; rfl
    rw [hl]
    clear h1 h2 h3 hl
    go_enter Try.func38, Try.ntmps38
    go_wp2
    go_ret3
    exact ⟨rfl, HZ.out _⟩
  · rw [h1, h3]
    clear h1 h3
    go_enter Try.func38, Try.ntmps38
    go_wp2
    go_quiet (fail)
    go_wp2
    go_ret3
    exact ⟨rfl, below_drewT (HZ.out _) _⟩
  · have b1 : (t.kind == 3) = false := by simpa using h1
    have b2 : (t.kind == 4) = false := by simpa using h2
    have hl : t.args.length = 0 := by rw [h4]; rfl
    rw [h3, h5, hl]
    clear h1 h2 h3 h4 h5 hl
    go_enter Try.func38, Try.ntmps38
    go_wp2
    go_ret3
    exact ⟨rfl, HZ.out _⟩

/-- has it that name, and so many arguments -/
def Tm.is (t : Tm) (l : List UInt8) (n : Nat) : Bool := (t.name.toList == l) && decide (t.args.length = n)
def controlT (t : Tm) : Bool := t.is [44] 2 || t.is [59] 2 || t.is [45, 62] 2 || t.is [92, 43] 1 || t.is [33] 0
theorem ctl_cases (l : List UInt8) : ((l == [44]) = true) ∨ ((l == [44]) = false ∧ (l == [59]) = true) ∨ ((l == [44]) = false ∧ (l == [59]) = false ∧ (l == [45, 62]) = true) ∨
    ((l == [44]) = false ∧ (l == [59]) = false ∧ (l == [45, 62]) = false ∧ (l == [92, 43]) = true) ∨ ((l == [44]) = false ∧ (l == [59]) = false ∧ (l == [45, 62]) = false ∧ (l == [92, 43]) = false ∧ (l == [33]) = true) ∨
    ((l == [44]) = false ∧ (l == [59]) = false ∧ (l == [45, 62]) = false ∧ (l == [92, 43]) = false ∧ (l == [33]) = false) := by
  cases (l == [44]) <;> cases (l == [59]) <;> cases (l == [45, 62]) <;> cases (l == [92, 43]) <;> cases (l == [33]) <;> simp
theorem ctl_val (l : List UInt8) (n : Nat) :
    ((l == [44]) && decide (n = 2) || (l == [59]) && decide (n = 2) || (l == [45, 62]) && decide (n = 2) || (l == [92, 43]) && decide (n = 1) || (l == [33]) && decide (n = 0)) =
    if l == [44] then (n : Int) == 2 else if l == [59] then (n : Int) == 2 else if l == [45, 62] then (n : Int) == 2 else if l == [92, 43] then (n : Int) == 1 else if l == [33] then (n : Int) == 0 else false := by
  have e2 : ((n : Int) == 2) = decide (n = 2) := by apply Bool.eq_iff_iff.2; simp; omega
  have e1 : ((n : Int) == 1) = decide (n = 1) := by apply Bool.eq_iff_iff.2; simp; omega
  have e0 : ((n : Int) == 0) = decide (n = 0) := by apply Bool.eq_iff_iff.2; simp
  rw [e2, e1, e0]
  by_cases h1 : l = [44]
  · subst h1; simp
  by_cases h2 : l = [59]
  · subst h2; simp
  by_cases h3 : l = [45, 62]
  · subst h3; simp
  by_cases h4 : l = [92, 43]
  · subst h4; simp
  by_cases h5 : l = [33]
  · subst h5; simp
  simp [h1, h2, h3, h4, h5]
set_option maxRecDepth 100000 in
theorem control_c (t : Tm) (ao : Option Addr) (c : Nat) (w : World) :
    Calls Try.prog 43 #[.agg #[.int .i64 t.kind, .int .i64 t.num, .string t.name, .slice ao t.args.length c]] w fun e w' => e = .returned (.bool (controlT t)) ∧ Below w.heap.size w w' := by
  have HZ := Lib.hid (below_one w)
  have CN := Lib.hid (fun W => normName_c t ao c W)
  have HC : Hid (controlT t = if t.name.toList == [44] then (t.args.length : Int) == 2 else if t.name.toList == [59] then (t.args.length : Int) == 2 else if t.name.toList == [45, 62] then (t.args.length : Int) == 2 else if t.name.toList == [92, 43] then (t.args.length : Int) == 1 else if t.name.toList == [33] then (t.args.length : Int) == 0 else false) := ctl_val _ _
  obtain ⟨r, hr⟩ : ∃ r, r = controlT t := ⟨_, rfl⟩
  rw [← hr] at HC ⊢
  clear hr
  generalize t.args.length = n at *
  generalize t.name = s at *
  rcases ctl_cases s.toList with h1 | ⟨h1, h2⟩ | ⟨h1, h2, h3⟩ | ⟨h1, h2, h3, h4⟩ | ⟨h1, h2, h3, h4, h5⟩ | ⟨h1, h2, h3, h4, h5⟩
  all_goals
    simp only [*, if_true, Bool.false_eq_true, if_false] at HC
    go_enter Try.func43, Try.ntmps43
    go_wp2_with (first | (go_at_call 38; ((with_reducible refine (CN.out _).mono ?_); rintro e W1 ⟨rfl, bb⟩; have B1 := Lib.hid ((HZ.out _).trans (bb.mono (by simp))); clear bb)))
    go_ret
    exact ⟨ret_bool HC.out.symm, B1.out⟩

/-! ### the document's -/
set_option maxRecDepth 100000 in
theorem refName_c (t : Tm) (ao : Option Addr) (c : Nat) (w : World) :
    Calls Try.prog 42 #[.agg #[.int .i64 t.kind, .int .i64 t.num, .string t.name, .slice ao t.args.length c]] w fun e w' => e = .returned (.tuple #[.string t.name, .int .i64 t.args.length, .bool t.named]) ∧ Below w.heap.size w w' := by
  have HZ := Lib.hid (below_one w)
  rcases t.kind_cases with ⟨h1, h2, h3⟩ | ⟨h1, h3⟩ | ⟨h1, h2, h3, h4, h5⟩
  · rw [h1, h3]
    have hl : t.args.length = 0 := by rw [h2]; rfl
    rw [hl]
    clear h1 h2 h3 hl
    go_enter Try.func42, Try.ntmps42
    go_wp2
    go_ret3
    exact ⟨rfl, HZ.out _⟩
  · rw [h1, h3]
    clear h1 h3
    go_enter Try.func42, Try.ntmps42
    go_wp2
    go_quiet (fail)
    go_wp2
    go_ret3
    exact ⟨rfl, below_drewT (HZ.out _) _⟩
  · have b1 : (t.kind == 3) = false := by simpa using h1
    have b2 : (t.kind == 4) = false := by simpa using h2
    have hl : t.args.length = 0 := by rw [h4]; rfl
    rw [h3, h5, hl]
    clear h1 h2 h3 h4 h5 hl
    go_enter Try.func42, Try.ntmps42
    go_wp2
    go_ret3
    exact ⟨rfl, HZ.out _⟩
end Go.Proofs.Ytmffobadnmkpbaa
namespace Go.Proofs.Ytmffobadnmkpbaa
open Go.RowKit

/-- what Is tells -/
def isR (t : Tm) (nm : ByteArray) (k : Int) : Bool := t.named && (t.name.toList == nm.toList) && ((t.args.length : Int) == k)
set_option maxRecDepth 100000 in
theorem isRef_c (t : Tm) (ao : Option Addr) (c : Nat) (nm : ByteArray) (k : Int) (w : World) :
    Calls Try.prog 84 #[.agg #[.int .i64 t.kind, .int .i64 t.num, .string t.name, .slice ao t.args.length c], .string nm, .int .i64 k] w fun e w' => e = .returned (.bool (isR t nm k)) ∧ Below w.heap.size w w' := by
  have HZ := Lib.hid (below_one w)
  have CN := Lib.hid (fun W => refName_c t ao c W)
  have HC : Hid (isR t nm k = (t.named && (t.name.toList == nm.toList) && ((t.args.length : Int) == k))) := rfl
  obtain ⟨r, hr⟩ : ∃ r, r = isR t nm k := ⟨_, rfl⟩
  rw [← hr] at HC ⊢
  clear hr
  generalize t.args.length = n at *
  generalize t.name = s at *
  generalize t.named = b at *
  cases b with
  | false =>
    have HC2 : Hid (r = false) := by show _ = _; have := HC.out; simpa using this
    go_enter Try.func84, Try.ntmps84
    go_wp2_with (first | (go_at_call 42; ((with_reducible refine (CN.out _).mono ?_); rintro e W1 ⟨rfl, bb⟩; have B1 := Lib.hid ((HZ.out _).trans (bb.mono (by simp))); clear bb)))
    go_ret
    exact ⟨ret_bool HC2.out.symm, B1.out⟩
  | true =>
    cases hs : (s.toList == nm.toList) with
    | false =>
      rw [hs] at HC
      have HC2 : Hid (r = false) := by show _ = _; have := HC.out; simpa using this
      go_enter Try.func84, Try.ntmps84
      go_wp2_with (first | (go_at_call 42; ((with_reducible refine (CN.out _).mono ?_); rintro e W1 ⟨rfl, bb⟩; have B1 := Lib.hid ((HZ.out _).trans (bb.mono (by simp))); clear bb)))
      go_ret
      exact ⟨ret_bool HC2.out.symm, B1.out⟩
    | true =>
      rw [hs] at HC
      have HC2 : Hid (r = ((n : Int) == k)) := by show _ = _; have := HC.out; simpa using this
      go_enter Try.func84, Try.ntmps84
      go_wp2_with (first | (go_at_call 42; ((with_reducible refine (CN.out _).mono ?_); rintro e W1 ⟨rfl, bb⟩; have B1 := Lib.hid ((HZ.out _).trans (bb.mono (by simp))); clear bb)))
      go_ret
      exact ⟨ret_bool HC2.out.symm, B1.out⟩
theorem Tm.named_no {t : Tm} (h : t.named = false) : t.name.toList = [] := by
  rw [ByteArray.toList_eq]
  cases t <;> simp [Tm.named, Tm.kind] at h <;> rfl
theorem isR_is (t : Tm) (nm : ByteArray) (l : List UInt8) (k : Nat) (hl : nm.toList = l) (hne : l ≠ []) : isR t nm k = t.is l k := by
  unfold isR Tm.is
  rw [hl]
  have e : ((t.args.length : Int) == (k : Int)) = decide (t.args.length = k) := by apply Bool.eq_iff_iff.2; simp; omega
  rw [e]
  cases hn : t.named with
  | true => simp
  | false => rw [Tm.named_no hn]; cases l <;> simp at hne ⊢
theorem toList_lit (l : List UInt8) : (⟨l.toArray⟩ : ByteArray).toList = l := by
  rw [ByteArray.toList_eq]
set_option maxRecDepth 100000 in
set_option maxHeartbeats 1600000 in
theorem refControl_c (t : Tm) (ao : Option Addr) (c : Nat) (w : World) :
    Calls Try.prog 44 #[.agg #[.int .i64 t.kind, .int .i64 t.num, .string t.name, .slice ao t.args.length c]] w fun e w' => e = .returned (.bool (controlT t)) ∧ Below w.heap.size w w' := by
  have B0 := Lib.hid (Below.refl (w.heap.size + 1) (w.alloc (.cells #[.int .i64 t.kind, .int .i64 t.num, .string t.name, .slice ao t.args.length c] 24)))
  have HC : Hid (controlT t = (t.is [44] 2 || t.is [59] 2 || t.is [45, 62] 2 || t.is [92, 43] 1 || t.is [33] 0)) := rfl
  have C0 : Hid (∀ W, Calls Try.prog 84 #[.agg #[.int .i64 t.kind, .int .i64 t.num, .string t.name, .slice ao t.args.length c], .string ⟨#[44]⟩, .int .i64 2] W fun e w' => e = .returned (.bool (t.is [44] 2)) ∧ Below W.heap.size W w') := fun W => by
    have h := isRef_c t ao c ⟨#[44]⟩ 2 W
    rw [show isR t ⟨#[44]⟩ 2 = t.is [44] 2 from isR_is t ⟨#[44]⟩ [44] 2 (toList_lit [44]) (by simp)] at h
    exact h
  have C1 : Hid (∀ W, Calls Try.prog 84 #[.agg #[.int .i64 t.kind, .int .i64 t.num, .string t.name, .slice ao t.args.length c], .string ⟨#[59]⟩, .int .i64 2] W fun e w' => e = .returned (.bool (t.is [59] 2)) ∧ Below W.heap.size W w') := fun W => by
    have h := isRef_c t ao c ⟨#[59]⟩ 2 W
    rw [show isR t ⟨#[59]⟩ 2 = t.is [59] 2 from isR_is t ⟨#[59]⟩ [59] 2 (toList_lit [59]) (by simp)] at h
    exact h
  have C2 : Hid (∀ W, Calls Try.prog 84 #[.agg #[.int .i64 t.kind, .int .i64 t.num, .string t.name, .slice ao t.args.length c], .string ⟨#[45, 62]⟩, .int .i64 2] W fun e w' => e = .returned (.bool (t.is [45, 62] 2)) ∧ Below W.heap.size W w') := fun W => by
    have h := isRef_c t ao c ⟨#[45, 62]⟩ 2 W
    rw [show isR t ⟨#[45, 62]⟩ 2 = t.is [45, 62] 2 from isR_is t ⟨#[45, 62]⟩ [45, 62] 2 (toList_lit [45, 62]) (by simp)] at h
    exact h
  have C3 : Hid (∀ W, Calls Try.prog 84 #[.agg #[.int .i64 t.kind, .int .i64 t.num, .string t.name, .slice ao t.args.length c], .string ⟨#[92, 43]⟩, .int .i64 1] W fun e w' => e = .returned (.bool (t.is [92, 43] 1)) ∧ Below W.heap.size W w') := fun W => by
    have h := isRef_c t ao c ⟨#[92, 43]⟩ 1 W
    rw [show isR t ⟨#[92, 43]⟩ 1 = t.is [92, 43] 1 from isR_is t ⟨#[92, 43]⟩ [92, 43] 1 (toList_lit [92, 43]) (by simp)] at h
    exact h
  have C4 : Hid (∀ W, Calls Try.prog 84 #[.agg #[.int .i64 t.kind, .int .i64 t.num, .string t.name, .slice ao t.args.length c], .string ⟨#[33]⟩, .int .i64 0] W fun e w' => e = .returned (.bool (t.is [33] 0)) ∧ Below W.heap.size W w') := fun W => by
    have h := isRef_c t ao c ⟨#[33]⟩ 0 W
    rw [show isR t ⟨#[33]⟩ 0 = t.is [33] 0 from isR_is t ⟨#[33]⟩ [33] 0 (toList_lit [33]) (by simp)] at h
    exact h
  obtain ⟨r, hr⟩ : ∃ r, r = controlT t := ⟨_, rfl⟩
  rw [← hr] at HC ⊢
  clear hr
  generalize t.is [44] 2 = b0 at *
  generalize t.is [59] 2 = b1 at *
  generalize t.is [45, 62] 2 = b2 at *
  generalize t.is [92, 43] 1 = b3 at *
  generalize t.is [33] 0 = b4 at *
  generalize t.args.length = n at *
  cases b0 with
  | true =>
    have HC2 : Hid (r = true) := by show _ = _; have := HC.out; simpa using this
    go_enter Try.func44, Try.ntmps44
    go_wp2_with (first | (go_at_call 84; ((with_reducible refine (C0.out _).mono ?_); rintro e W1 ⟨rfl, bb⟩; have B0 := Lib.hid (B0.out.trans (bb.mono (le_box B0.out))); obtain ⟨x0, x1, x2, x3⟩ := box_one B0.out; clear bb)))
    go_ret
    exact ⟨ret_bool HC2.out.symm, below_box B0.out⟩
  | false =>
    cases b1 with
    | true =>
      have HC2 : Hid (r = true) := by show _ = _; have := HC.out; simpa using this
      go_enter Try.func44, Try.ntmps44
      go_wp2_with (first | (go_at_call 84; ((with_reducible refine (C0.out _).mono ?_); rintro e W1 ⟨rfl, bb⟩; have B0 := Lib.hid (B0.out.trans (bb.mono (le_box B0.out))); obtain ⟨x0, x1, x2, x3⟩ := box_one B0.out; clear bb)) | (go_at_call 84; ((with_reducible refine (C1.out _).mono ?_); rintro e W1 ⟨rfl, bb⟩; have B0 := Lib.hid (B0.out.trans (bb.mono (le_box B0.out))); obtain ⟨x0, x1, x2, x3⟩ := box_one B0.out; clear bb)))
      go_ret
      exact ⟨ret_bool HC2.out.symm, below_box B0.out⟩
    | false =>
      cases b2 with
      | true =>
        have HC2 : Hid (r = true) := by show _ = _; have := HC.out; simpa using this
        go_enter Try.func44, Try.ntmps44
        go_wp2_with (first | (go_at_call 84; ((with_reducible refine (C0.out _).mono ?_); rintro e W1 ⟨rfl, bb⟩; have B0 := Lib.hid (B0.out.trans (bb.mono (le_box B0.out))); obtain ⟨x0, x1, x2, x3⟩ := box_one B0.out; clear bb)) | (go_at_call 84; ((with_reducible refine (C1.out _).mono ?_); rintro e W1 ⟨rfl, bb⟩; have B0 := Lib.hid (B0.out.trans (bb.mono (le_box B0.out))); obtain ⟨x0, x1, x2, x3⟩ := box_one B0.out; clear bb)) | (go_at_call 84; ((with_reducible refine (C2.out _).mono ?_); rintro e W1 ⟨rfl, bb⟩; have B0 := Lib.hid (B0.out.trans (bb.mono (le_box B0.out))); obtain ⟨x0, x1, x2, x3⟩ := box_one B0.out; clear bb)))
        go_ret
        exact ⟨ret_bool HC2.out.symm, below_box B0.out⟩
      | false =>
        cases b3 with
        | true =>
          have HC2 : Hid (r = true) := by show _ = _; have := HC.out; simpa using this
          go_enter Try.func44, Try.ntmps44
          go_wp2_with (first | (go_at_call 84; ((with_reducible refine (C0.out _).mono ?_); rintro e W1 ⟨rfl, bb⟩; have B0 := Lib.hid (B0.out.trans (bb.mono (le_box B0.out))); obtain ⟨x0, x1, x2, x3⟩ := box_one B0.out; clear bb)) | (go_at_call 84; ((with_reducible refine (C1.out _).mono ?_); rintro e W1 ⟨rfl, bb⟩; have B0 := Lib.hid (B0.out.trans (bb.mono (le_box B0.out))); obtain ⟨x0, x1, x2, x3⟩ := box_one B0.out; clear bb)) | (go_at_call 84; ((with_reducible refine (C2.out _).mono ?_); rintro e W1 ⟨rfl, bb⟩; have B0 := Lib.hid (B0.out.trans (bb.mono (le_box B0.out))); obtain ⟨x0, x1, x2, x3⟩ := box_one B0.out; clear bb)) | (go_at_call 84; ((with_reducible refine (C3.out _).mono ?_); rintro e W1 ⟨rfl, bb⟩; have B0 := Lib.hid (B0.out.trans (bb.mono (le_box B0.out))); obtain ⟨x0, x1, x2, x3⟩ := box_one B0.out; clear bb)))
          go_ret
          exact ⟨ret_bool HC2.out.symm, below_box B0.out⟩
        | false =>
          cases b4 with
          | true =>
            have HC2 : Hid (r = true) := by show _ = _; have := HC.out; simpa using this
            go_enter Try.func44, Try.ntmps44
            go_wp2_with (first | (go_at_call 84; ((with_reducible refine (C0.out _).mono ?_); rintro e W1 ⟨rfl, bb⟩; have B0 := Lib.hid (B0.out.trans (bb.mono (le_box B0.out))); obtain ⟨x0, x1, x2, x3⟩ := box_one B0.out; clear bb)) | (go_at_call 84; ((with_reducible refine (C1.out _).mono ?_); rintro e W1 ⟨rfl, bb⟩; have B0 := Lib.hid (B0.out.trans (bb.mono (le_box B0.out))); obtain ⟨x0, x1, x2, x3⟩ := box_one B0.out; clear bb)) | (go_at_call 84; ((with_reducible refine (C2.out _).mono ?_); rintro e W1 ⟨rfl, bb⟩; have B0 := Lib.hid (B0.out.trans (bb.mono (le_box B0.out))); obtain ⟨x0, x1, x2, x3⟩ := box_one B0.out; clear bb)) | (go_at_call 84; ((with_reducible refine (C3.out _).mono ?_); rintro e W1 ⟨rfl, bb⟩; have B0 := Lib.hid (B0.out.trans (bb.mono (le_box B0.out))); obtain ⟨x0, x1, x2, x3⟩ := box_one B0.out; clear bb)) | (go_at_call 84; ((with_reducible refine (C4.out _).mono ?_); rintro e W1 ⟨rfl, bb⟩; have B0 := Lib.hid (B0.out.trans (bb.mono (le_box B0.out))); obtain ⟨x0, x1, x2, x3⟩ := box_one B0.out; clear bb)))
            go_ret
            exact ⟨ret_bool HC2.out.symm, below_box B0.out⟩
          | false =>
            have HC2 : Hid (r = false) := by show _ = _; have := HC.out; simpa using this
            go_enter Try.func44, Try.ntmps44
            go_wp2_with (first | (go_at_call 84; ((with_reducible refine (C0.out _).mono ?_); rintro e W1 ⟨rfl, bb⟩; have B0 := Lib.hid (B0.out.trans (bb.mono (le_box B0.out))); obtain ⟨x0, x1, x2, x3⟩ := box_one B0.out; clear bb)) | (go_at_call 84; ((with_reducible refine (C1.out _).mono ?_); rintro e W1 ⟨rfl, bb⟩; have B0 := Lib.hid (B0.out.trans (bb.mono (le_box B0.out))); obtain ⟨x0, x1, x2, x3⟩ := box_one B0.out; clear bb)) | (go_at_call 84; ((with_reducible refine (C2.out _).mono ?_); rintro e W1 ⟨rfl, bb⟩; have B0 := Lib.hid (B0.out.trans (bb.mono (le_box B0.out))); obtain ⟨x0, x1, x2, x3⟩ := box_one B0.out; clear bb)) | (go_at_call 84; ((with_reducible refine (C3.out _).mono ?_); rintro e W1 ⟨rfl, bb⟩; have B0 := Lib.hid (B0.out.trans (bb.mono (le_box B0.out))); obtain ⟨x0, x1, x2, x3⟩ := box_one B0.out; clear bb)) | (go_at_call 84; ((with_reducible refine (C4.out _).mono ?_); rintro e W1 ⟨rfl, bb⟩; have B0 := Lib.hid (B0.out.trans (bb.mono (le_box B0.out))); obtain ⟨x0, x1, x2, x3⟩ := box_one B0.out; clear bb)))
            go_ret
            exact ⟨ret_bool HC2.out.symm, below_box B0.out⟩
end Go.Proofs.Ytmffobadnmkpbaa
namespace Go.Proofs.Ytmffobadnmkpbaa
open Go.RowKit

mutual
/-- is there no integer where a goal stands -/
def Tm.callable : Tm → Bool
  | .int _ => false
  | .cmp s l => !controlT (.cmp s l) || Tm.callables l
  | _ => true
def Tm.callables : List Tm → Bool
  | [] => true
  | t :: l => t.callable && Tm.callables l
end
theorem Tm.callable_eq (t : Tm) : t.callable = (!(t.kind == 2) && (!controlT t || Tm.callables t.args)) := by
  cases t <;> simp [Tm.callable, Tm.kind, Tm.args, Tm.callables]
theorem Tm.callables_append (a b : List Tm) : Tm.callables (a ++ b) = (Tm.callables a && Tm.callables b) := by
  induction a with
  | nil => simp [Tm.callables]
  | cons t l ih => simp [Tm.callables, ih, Bool.and_assoc]
theorem Tm.callables_take (l : List Tm) (k : Nat) (h : k < l.length) : Tm.callables (l.take (k + 1)) = (Tm.callables (l.take k) && l[k].callable) := by
  rw [List.take_succ_eq_append_getElem h, Tm.callables_append]; simp [Tm.callables]
theorem Tm.callables_no {l : List Tm} {k : Nat} (h : k < l.length) (hn : l[k].callable = false) : Tm.callables l = false := by
  induction l generalizing k with
  | nil => simp at h
  | cons t l ih =>
    cases k with
    | zero => simp at hn; simp [Tm.callables, hn]
    | succ k => simp at hn h; simp [Tm.callables, ih h hn]

/-- call(t) -/
def callOf (t : Tm) : Tm := .cmp ⟨#[99, 97, 108, 108]⟩ [t]
mutual
def Tm.gather : Tm → List Tm
  | .cmp s l => if Tm.is (.cmp s l) [44] 2 then Tm.gathers l else [.cmp s l]
  | .atom s => if Tm.is (.atom s) [116, 114, 117, 101] 0 then [] else [.atom s]
  | .var n => [callOf (.var n)]
  | t => [t]
def Tm.gathers : List Tm → List Tm
  | [] => []
  | t :: l => t.gather ++ Tm.gathers l
end
theorem Tm.gather_and {t : Tm} (h : t.is [44] 2 = true) : ∃ a b, t.args = [a, b] ∧ t.gather = a.gather ++ b.gather ∧ t.kind = 4 := by
  cases t with
  | cmp s l =>
    have hl : l.length = 2 := by simp only [Tm.is, Tm.args, Bool.and_eq_true] at h; exact of_decide_eq_true h.2
    match l, hl with
    | [a, b], _ => exact ⟨a, b, rfl, by simp [Tm.gather, h, Tm.gathers], rfl⟩
  | _ => simp [Tm.is, Tm.args] at h
theorem Tm.gather_true {t : Tm} (h1 : t.is [44] 2 = false) (h : t.is [116, 114, 117, 101] 0 = true) (hok : t.ok) : t.gather = [] := by
  cases hok with
  | atom => simp [Tm.gather, h]
  | cmp _ h0 => have := h; simp only [Tm.is, Tm.args, Bool.and_eq_true] at this; have := of_decide_eq_true this.2; omega
  | _ => simp [Tm.is, Tm.name, ByteArray.toList_eq] at h
theorem Tm.gather_var {t : Tm} (h : t.kind = 1) : t.gather = [callOf t] := by
  cases t <;> simp [Tm.kind] at h; rfl
theorem Tm.gather_self {t : Tm} (h1 : t.is [44] 2 = false) (h2 : t.is [116, 114, 117, 101] 0 = false) (h3 : t.kind ≠ 1) : t.gather = [t] := by
  cases t with
  | var n => simp [Tm.kind] at h3
  | atom s => simp [Tm.gather, h2]
  | cmp s l => simp [Tm.gather, h1]
  | _ => rfl
theorem is_var {t : Tm} (h : t.kind = 1) (l : List UInt8) (k : Nat) (hl : l ≠ []) : t.is l k = false := by
  cases t <;> simp [Tm.kind] at h
  simp only [Tm.is, Tm.name, ByteArray.toList_eq]
  cases l
  · exact absurd rfl hl
  · rfl
theorem Tm.gather_len (t : Tm) : t.gather.length ≤ t.size := by
  induction t using Tm.ind with
  | h4 s l ih =>
    by_cases h : Tm.is (.cmp s l) [44] 2 = true
    · obtain ⟨a, b, e1, e2, _⟩ := Tm.gather_and h
      simp only [Tm.args] at e1
      subst e1
      have h1 := ih a (by simp)
      have h2 := ih b (by simp)
      rw [e2]
      simp only [List.length_append, Tm.size, Tm.sizes]; omega
    · simp [Tm.gather, h, Tm.size]
  | h3 s => simp only [Tm.gather]; split <;> simp [Tm.size]
  | _ => simp [Tm.gather, Tm.size]
end Go.Proofs.Ytmffobadnmkpbaa
namespace Go.Proofs.Ytmffobadnmkpbaa
open Go.RowKit

def RCallC (t : Tm) : Prop := ∀ (va : Value) (w : World), TmAt (fun _ => True) w t va → t.size ≤ 1000000000 →
  Calls Try.prog 82 #[tmV t va] w fun e w' => e = .returned (.bool t.callable) ∧ Below w.heap.size w w'

set_option maxRecDepth 100000 in
set_option maxHeartbeats 1600000 in
theorem rcall_step (t : Tm) (va : Value) (w : World) (ht : TmAt (fun _ => True) w t va) (hb : t.size ≤ 1000000000) (hC : ∀ u ∈ t.args, RCallC u) :
    Calls Try.prog 82 #[tmV t va] w fun e w' => e = .returned (.bool t.callable) ∧ Below w.heap.size w w' := by
  obtain ⟨ao, cc, rfl, hc1, hc2⟩ := ht.shape
  have HT := Lib.hid (TsAt.of_tm ht)
  have HC := Lib.hid hC
  have HZ := Lib.hid (below_one w)
  have HE := Lib.hid t.callable_eq
  have HS2 := Lib.hid (show ∀ u ∈ t.args, u.size ≤ 1000000000 from fun u hu => by have := Tm.args_size hu; omega)
  have hl : t.args.length ≤ 1000000000 := by have h1 := Tm.sizes_len t.args; have h2 := t.size_eq; omega
  have CT : Hid (∀ W, Calls Try.prog 44 #[.agg #[.int .i64 t.kind, .int .i64 t.num, .string t.name, .slice ao t.args.length cc]] W fun e w' => e = .returned (.bool (controlT t)) ∧ Below W.heap.size W w') := fun W => refControl_c t ao cc W
  unfold tmV
  clear ht hC hb hc1 hc2
  generalize t.callable = r at *
  generalize controlT t = ct at *
  generalize t.args = l at *
  by_cases hk2 : t.kind = 2
  · have HR : Hid (r = false) := by show _ = _; rw [HE.out]; simp [hk2]
    rw [hk2]
    clear hk2
    go_enter Try.func82, Try.ntmps82
    go_wp2
    go_ret
    exact ⟨ret_bool HR.out.symm, HZ.out _⟩
  have hkb : (t.kind == 2) = false := by simpa using hk2
  rw [hkb] at HE
  clear hk2
  go_enter Try.func82, Try.ntmps82
  go_wp2
  go_loopg [3] l.length (fun n i wr => ∃ (k : Nat), k ≤ l.length ∧ i = .int .i64 k ∧ Hid (n = l.length - k) ∧ Hid (Tm.callables (l.take k) = true) ∧ Hid (Below (w.heap.size + 1) (w.alloc (.cells #[.int .i64 t.kind, .int .i64 t.num, .string t.name, .slice ao l.length cc] 24)) wr))
  case atStart => exact ⟨0, by omega, rfl, rfl, Lib.hid (by simp [Tm.callables]), Below.refl _ _⟩
  case round =>
    obtain ⟨k, hk, rfl, HN, HA, HW⟩ := hrel
    have HWw := Lib.hid (below_box HW.out)
    obtain ⟨y0, y1, y2, y3⟩ := box_one HW.out
    cases ct with
    | false =>
      have HR : Hid (r = true) := by show _ = _; rw [HE.out]; simp
      go_wp2_with (first | (go_at_call 44; ((with_reducible refine (CT.out _).mono ?_); rintro e W2 ⟨rfl, bb⟩; have BB := Lib.hid bb; clear bb)))
      go_ret
      exact ⟨ret_bool HR.out.symm, HWw.out.trans (BB.out.mono HWw.out.size)⟩
    | true =>
      by_cases hlt : k < l.length
      · obtain ⟨b, off, a1, rfl, -, hcc, hta⟩ := (HT.out.later HWw.out).get k hlt
        obtain ⟨ao1, c1, rfl, _⟩ := hta.shape
        have CX := Lib.hid (HC.out l[k] (List.getElem_mem hlt))
        have HD := Lib.hid (Tm.callables_take l k hlt)
        have HD2 := Lib.hid (fun h => Tm.callables_no (l := l) hlt h)
        have hbc := HS2.out _ (List.getElem_mem hlt)
        have hbl := hcc.lt
        have KK : Hid (∀ W, Below wr.heap.size wr W → CellsT W b (off + k * 4) l[k] (.slice ao1 l[k].args.length c1) ∧ Below (w.heap.size + 1) (w.alloc (.cells #[.int .i64 t.kind, .int .i64 t.num, .string t.name, .slice (some ⟨b, off, none⟩) l.length cc] 24)) W) := fun W h => ⟨hcc.block (h.block _ hbl), HW.out.trans (h.mono (le_box HW.out))⟩
        have CC : Hid (∀ W, Below wr.heap.size wr W → Calls Try.prog 82 #[.agg #[.int .i64 l[k].kind, .int .i64 l[k].num, .string l[k].name, .slice ao1 l[k].args.length c1]] W fun e w' => e = .returned (.bool l[k].callable) ∧ Below W.heap.size W w') := fun W h => CX.out _ W (hta.later h) hbc
        clear hta CX hbc hcc
        generalize l[k] = u at *
        generalize u.callable = y at *
        cases y with
        | true =>
          go_wp2_with (first
            | (go_at_call 44; ((with_reducible refine (CT.out _).mono ?_); rintro e W2 ⟨rfl, bb⟩; obtain ⟨kc, kb⟩ := KK.out _ bb; have K2 := Lib.hid kb; have B2 := Lib.hid bb; clear y0 y1 y2 y3 bb; obtain ⟨y0, y1, y2, y3⟩ := box_one kb; clear kb; have hb2 := kc.lt; obtain ⟨x0, x1, x2, x3⟩ := kc))
            | (go_at_call 82; ((with_reducible refine (CC.out _ B2.out).mono ?_); rintro e W3 ⟨rfl, bb⟩; have BB := Lib.hid (K2.out.trans (bb.mono (le_box K2.out))); clear bb)))
          go_roundg (l.length - (k + 1))
          case measure => have := HN.out; omega
          case rel => exact ⟨k + 1, by omega, by go_num, rfl, Lib.hid (by rw [HD.out, HA.out]; rfl), BB⟩
        | false =>
          have HR : Hid (r = false) := by show _ = _; rw [HE.out, HD2.out rfl]; rfl
          go_wp2_with (first
            | (go_at_call 44; ((with_reducible refine (CT.out _).mono ?_); rintro e W2 ⟨rfl, bb⟩; obtain ⟨kc, kb⟩ := KK.out _ bb; have K2 := Lib.hid kb; have B2 := Lib.hid bb; clear y0 y1 y2 y3 bb; obtain ⟨y0, y1, y2, y3⟩ := box_one kb; clear kb; have hb2 := kc.lt; obtain ⟨x0, x1, x2, x3⟩ := kc))
            | (go_at_call 82; ((with_reducible refine (CC.out _ B2.out).mono ?_); rintro e W3 ⟨rfl, bb⟩; have BB := Lib.hid (K2.out.trans (bb.mono (le_box K2.out))); clear bb)))
          go_ret
          exact ⟨ret_bool HR.out.symm, below_box BB.out⟩
      · obtain rfl : k = l.length := by omega
        have HR : Hid (r = true) := by show _ = _; have h := HA.out; rw [List.take_length] at h; rw [HE.out, h]; rfl
        go_wp2_with (first | (go_at_call 44; ((with_reducible refine (CT.out _).mono ?_); rintro e W2 ⟨rfl, bb⟩; have BB := Lib.hid (HW.out.trans (bb.mono (le_box HW.out))); clear y0 y1 y2 y3 bb; obtain ⟨y0, y1, y2, y3⟩ := box_one BB.out)))
        go_ret
        exact ⟨ret_bool HR.out.symm, below_box BB.out⟩
theorem rcall_all (t : Tm) : RCallC t := by
  induction t using Tm.ind with
  | h4 s l ih => exact fun va w ha hb => rcall_step _ va w ha hb ih
  | _ => exact fun va w ha hb => rcall_step _ va w ha hb (by simp [Tm.args])
end Go.Proofs.Ytmffobadnmkpbaa
