/-
  A map[int]int OF THE CALL'S OWN; renaming.pair, walked.
  renaming.pair, walked.
  slices.EqualFunc over two lists of terms under a renaming, walked over the contract of the first one's terms.
  term.Vars: its closure, one step of its recursion, walked.
-/
import Derived.Test.YtmffobadnmkpbaaKtmo2
import Derived.Test.YtmffobadnmkpbaaKlib1
import Derived.Deep.RegionHeldLaw
import Derived.Deep.RegionHeld3
import Derived.Deep.Cut
import Derived.Deep.RegionLaw
import Derived.Handy
import Derived.Test.YtmffobadnmkpbaaKtmo1
import Derived.Deep.LoopGhost
namespace Go.Proofs.Ytmffobadnmkpbaa
open Go.RowKit Go.Maps

/-- block b is a map of at most n entries, that reads as F -/
def IMapAt (P : Program) (K E : TypeId) (w : World) (b n : Nat) (F : Int → Option Int) : Prop :=
  ∃ D : DataW Unit, w.ownsMap P K (plainElem P E) b n D ∧ IsMap D ∧ ∀ i, has D (.int .i64 i) = (F i).isSome ∧ D.atKey (.int .i64 i) (.lit (.int .i64 0)) = .lit (.int .i64 ((F i).getD 0))
variable {P : Program} {K E : TypeId} {w w' : World} {b n : Nat} {F : Int → Option Int}
theorem IMapAt.made (w : World) : IMapAt P K E (w.alloc (.map #[] 0)) w.heap.size 0 (fun _ => none) :=
  ⟨.map [], World.ownsMap_made w P K _, ⟨[], rfl⟩, fun _ => ⟨rfl, rfl⟩⟩
theorem IMapAt.block (h : IMapAt P K E w b n F) (e : w'.heap[b]? = w.heap[b]?) : IMapAt P K E w' b n F := by
  obtain ⟨D, ⟨es, clock, hb, hF, hs, hD⟩, h2, h3⟩ := h
  exact ⟨D, ⟨es, clock, e.trans hb, hF, hs, hD⟩, h2, h3⟩
theorem IMapAt.lt (h : IMapAt P K E w b n F) : b < w.heap.size := by
  obtain ⟨D, h1, _⟩ := h; exact h1.lt
theorem IMapAt.congr (h : IMapAt P K E w b n F) {G : Int → Option Int} (e : ∀ i, F i = G i) : IMapAt P K E w b n G := by
  obtain ⟨D, h1, h2, h3⟩ := h; exact ⟨D, h1, h2, fun i => by rw [← e]; exact h3 i⟩
/-- 'v, ok := m[i]' -/
theorem wpList_lookup_imap {ops : Array Oper} {rest : List Oper} {o : Oper} {a : Act} {Q : Exit → Act → World → Prop} (w : World) (hg : o.guard = none) (m x : Operand) (t : TypeId) (hop : o.op = Op.lookup t m x true)
    (K E : TypeId) (hK : P.underlying K = some (.int .i64)) (ht : P.underlying t = some (.map K E)) (hE : P.underlying E = some (.int .i64)) (hz : (zeroValue E).run P w = .ok (.int .i64 0) w)
    (b n : Nat) (F : Int → Option Int) (hm : a.eval m = .map (some b)) (h : IMapAt P K E w b n F) (i : Int) (hx : a.eval x = .int .i64 i) (hi : -9223372036854775808 ≤ i ∧ i ≤ 9223372036854775807)
    (hk : wpList P ops Q rest (a.put o.dst (.tuple #[.int .i64 ((F i).getD 0), .bool (F i).isSome])) w) : wpList P ops Q (o :: rest) a w := by
  obtain ⟨D, h1, h2, h3⟩ := h
  refine wpList_lookup_own_ok_int w hg m x t hop K E .i64 (int_keyed hK) ht hE hz b n D hm h1 _ (.int .i64 i) hx (keyOf_int_mk hK (wf64 hi)) (fun c hc _ => ?_)
  obtain ⟨e1, e2⟩ := h3 i
  rw [hc] at e2
  simp only [DataW.lit.injEq, Lit.int.injEq, true_and] at e2
  rw [e1, e2]
  exact hk
/-- 'm[i] = c', as a run -/
theorem imap_update (w : World) (t : TypeId) (K E : TypeId) (hK : P.underlying K = some (.int .i64)) (ht : P.underlying t = some (.map K E)) (hE : P.underlying E = some (.int .i64))
    (b n : Nat) (F : Int → Option Int) (h : IMapAt P K E w b n F) (hn : n < maxLen) (i : Int) (hi : -9223372036854775808 ≤ i ∧ i ≤ 9223372036854775807) (c : Int) (hc : -9223372036854775808 ≤ c ∧ c ≤ 9223372036854775807) :
    ∃ w', (Instr.mapUpdate t (.map (some b)) (.int .i64 i) (.int .i64 c)).run P w = .ok () w' ∧ IMapAt P K E w' b (n + 1) (fun j => if j = i then some c else F j) ∧ w.grownBy w' (some b) := by
  obtain ⟨D, h1, h2, h3⟩ := h
  obtain ⟨w', hrun, r1, r2⟩ := h1.update (int_keyed hK) ht hn (keyOf_int_mk hK (wf64 hi)) (plainElem_int hE (wf64 hc))
  refine ⟨w', hrun, ⟨_, r1, put_map h2 _ _, fun j => ?_⟩, r2⟩
  by_cases e : j = i
  · subst e
    rw [atKey_put_same h2 (k := .int .i64 j) trivial, has_put_same h2 (k := .int .i64 j) trivial]; simp
  · rw [atKey_put_other (by simpa using e), has_put_other (by simpa using e)]; simp [e, h3 j]
def lookF (r : List (Int × Int)) (i : Int) : Option Int := (r.find? (fun p => p.1 == i)).map Prod.snd
def lookB (r : List (Int × Int)) (i : Int) : Option Int := (r.find? (fun p => p.2 == i)).map Prod.fst
theorem lookF_none {r : List (Int × Int)} {a : Int} : lookF r a = none ↔ a ∉ r.map Prod.fst := by
  induction r with
  | nil => simp [lookF]
  | cons p r ih =>
    unfold lookF at *
    by_cases h : p.1 = a
    · simp [h]
    · have : (p.1 == a) = false := by simpa using h
      rw [List.find?_cons, this]; simp only [ih, List.map_cons, List.mem_cons, not_or]; exact ⟨fun h2 => ⟨Ne.symm h, h2⟩, fun h2 => h2.2⟩
theorem lookB_none {r : List (Int × Int)} {a : Int} : lookB r a = none ↔ a ∉ r.map Prod.snd := by
  induction r with
  | nil => simp [lookB]
  | cons p r ih =>
    unfold lookB at *
    by_cases h : p.2 = a
    · simp [h]
    · have : (p.2 == a) = false := by simpa using h
      rw [List.find?_cons, this]; simp only [ih, List.map_cons, List.mem_cons, not_or]; exact ⟨fun h2 => ⟨Ne.symm h, h2⟩, fun h2 => h2.2⟩
theorem lookF_some {r : List (Int × Int)} (h : OneR r) {a c : Int} : lookF r a = some c ↔ (a, c) ∈ r := by
  replace h := h.1
  induction r with
  | nil => simp [lookF]
  | cons p r ih =>
    obtain ⟨x, y⟩ := p
    have hn := List.nodup_cons.1 (by simpa using h : (x :: r.map Prod.fst).Nodup)
    have ih := ih hn.2
    unfold lookF at *
    by_cases hx : x = a
    · subst hx
      rw [List.find?_cons]
      simp only [BEq.rfl, Option.map_some, Option.some.injEq, List.mem_cons, Prod.mk.injEq, true_and]
      exact ⟨fun e => .inl e.symm, fun e => by rcases e with e | e; (· exact e.symm); (· exact absurd (List.mem_map.2 ⟨_, e, rfl⟩) hn.1)⟩
    · have : (x == a) = false := by simpa using hx
      rw [List.find?_cons, this]
      simp only [ih, List.mem_cons, Prod.mk.injEq]
      exact ⟨.inr, fun e => by rcases e with e | e; (· exact absurd e.1.symm hx); (· exact e)⟩
theorem lookB_some {r : List (Int × Int)} (h : OneR r) {a c : Int} : lookB r c = some a ↔ (a, c) ∈ r := by
  replace h := h.2
  induction r with
  | nil => simp [lookB]
  | cons p r ih =>
    obtain ⟨x, y⟩ := p
    have hn := List.nodup_cons.1 (by simpa using h : (y :: r.map Prod.snd).Nodup)
    have ih := ih hn.2
    unfold lookB at *
    by_cases hx : y = c
    · subst hx
      rw [List.find?_cons]
      simp only [BEq.rfl, Option.map_some, Option.some.injEq, List.mem_cons, Prod.mk.injEq, and_true]
      exact ⟨fun e => .inl e.symm, fun e => by rcases e with e | e; (· exact e.symm); (· exact absurd (List.mem_map.2 ⟨_, e, rfl⟩) hn.1)⟩
    · have : (y == c) = false := by simpa using hx
      rw [List.find?_cons, this]
      simp only [ih, List.mem_cons, Prod.mk.injEq]
      exact ⟨.inr, fun e => by rcases e with e | e; (· exact absurd e.2.symm hx); (· exact e)⟩
/-- a renaming's two maps in memory -/
structure RenAt (w : World) (b1 b2 : Nat) (r : List (Int × Int)) : Prop where
  m1 : IMapAt Try.prog 3 3 w b1 r.length (lookF r)
  m2 : IMapAt Try.prog 3 3 w b2 r.length (lookB r)
  ne : b1 ≠ b2
  one : OneR r
/-- all but the two maps stays -/
def Kr (b1 b2 : Nat) (w w' : World) : Prop := w.heap.size ≤ w'.heap.size ∧ ∀ k, k < w.heap.size → k ≠ b1 → k ≠ b2 → w'.heap[k]? = w.heap[k]?
theorem Kr.trans {b1 b2 : Nat} {w w' w'' : World} (h1 : Kr b1 b2 w w') (h2 : Kr b1 b2 w' w'') : Kr b1 b2 w w'' :=
  ⟨Nat.le_trans h1.1 h2.1, fun k a b c => (h2.2 k (Nat.lt_of_lt_of_le a h1.1) b c).trans (h1.2 k a b c)⟩
theorem Kr.below {b1 b2 : Nat} {w w' : World} (h : Below w.heap.size w w') : Kr b1 b2 w w' := ⟨h.size, fun k a _ _ => h.block k a⟩
theorem RenAt.below {w w' : World} {b1 b2 : Nat} {r : List (Int × Int)} (h : RenAt w b1 b2 r) (hb : Below w.heap.size w w') : RenAt w' b1 b2 r :=
  ⟨h.m1.block (hb.block _ h.m1.lt), h.m2.block (hb.block _ h.m2.lt), h.ne, h.one⟩
theorem look_snocF {r : List (Int × Int)} {a c : Int} (h : a ∉ r.map Prod.fst) (j : Int) : (if j = a then some c else lookF r j) = lookF (r ++ [(a, c)]) j := by
  unfold lookF
  rw [List.find?_append]
  by_cases e : j = a
  · subst e
    have := lookF_none.2 h
    unfold lookF at this
    have h0 : r.find? (fun p => p.1 == j) = none := by simpa using this
    simp [h0]
  · have : (a == j) = false := by simpa using Ne.symm e
    simp [e, this]
theorem look_snocB {r : List (Int × Int)} {a c : Int} (h : c ∉ r.map Prod.snd) (j : Int) : (if j = c then some a else lookB r j) = lookB (r ++ [(a, c)]) j := by
  unfold lookB
  rw [List.find?_append]
  by_cases e : j = c
  · subst e
    have := lookB_none.2 h
    unfold lookB at this
    have h0 : r.find? (fun p => p.2 == j) = none := by simpa using this
    simp [h0]
  · have : (c == j) = false := by simpa using Ne.symm e
    simp [e, this]
end Go.Proofs.Ytmffobadnmkpbaa
namespace Go.Proofs.Ytmffobadnmkpbaa
open Go.RowKit Go.Maps

theorem kr_grown {b1 b2 : Nat} {w w' : World} (h : w.grownBy w' (some b1)) : Kr b1 b2 w w' := ⟨h.size, fun k a b _ => h.block k a (by simpa using b)⟩
theorem kr_grown2 {b1 b2 : Nat} {w w' : World} (h : w.grownBy w' (some b2)) : Kr b1 b2 w w' := ⟨h.size, fun k a _ b => h.block k a (by simpa using b)⟩
theorem pairR_new {r : List (Int × Int)} {a b : Int} (h1 : lookF r a = none) (h2 : lookB r b = none) : pairR r a b = some (r ++ [(a, b)]) := by
  unfold pairR; rw [if_pos ⟨lookF_none.1 h1, lookB_none.1 h2⟩]
theorem pairR_no {r : List (Int × Int)} (h : OneR r) {a b : Int} (h1 : ¬ (lookF r a = none ∧ lookB r b = none)) (h2 : ¬ (lookF r a = some b ∧ lookB r b = some a)) : pairR r a b = none := by
  unfold pairR
  rw [if_neg (fun hh => h1 ⟨lookF_none.2 hh.1, lookB_none.2 hh.2⟩), if_neg (fun hm => h2 ⟨(lookF_some h).2 hm, (lookB_some h).2 hm⟩)]
theorem pairR_yes {r : List (Int × Int)} (h : OneR r) {a b : Int} (h1 : lookF r a = some b) : pairR r a b = some r ∧ lookB r b = some a := by
  have hm := (lookF_some h).1 h1
  refine ⟨?_, (lookB_some h).2 hm⟩
  unfold pairR
  rw [if_neg (fun hh => hh.1 (List.mem_map.2 ⟨_, hm, rfl⟩)), if_pos hm]
/-- what pair and alike tell -/
def RetPair (x : Option (List (Int × Int))) (B b1 b2 : Nat) (w : World) (e : Ending) (w' : World) : Prop := e = .returned (.bool x.isSome) ∧ Below B w w' ∧ Kr b1 b2 w w' ∧ ∀ r', x = some r' → RenAt w' b1 b2 r'
set_option maxRecDepth 100000 in
set_option maxHeartbeats 3200000 in
theorem pair_c (B b1 b2 : Nat) (r : List (Int × Int)) (a b : Int) (w : World) (h : RenAt w b1 b2 r) (hB1 : B ≤ b1) (hB2 : B ≤ b2) (hr : r.length ≤ 1000000) (ha : 0 ≤ a ∧ a < 5000) (hb : 0 ≤ b ∧ b < 5000) :
    Calls Try.prog 109 #[.agg #[.map (some b1), .map (some b2)], .int .i64 a, .int .i64 b] w (RetPair (pairR r a b) B b1 b2 w) := by
  have hl1 := h.m1.lt
  have hl2 := h.m2.lt
  have HBB := Lib.hid (show B ≤ w.heap.size by omega)
  have HZ : Hid (∀ o, Below w.heap.size w (w.alloc o)) := fun o => (Below.refl _ _).alloc (Nat.le_refl _) o
  have H0 := Lib.hid (h.below (HZ.out (.cells #[.map (some b1), .map (some b2)] 88)))
  have HX := Lib.hid (BoxL.mk' w #[.map (some b1), .map (some b2)] 88)
  have H1 := Lib.hid h
  have HD : Hid (Below B w (w.alloc (.cells #[.map (some b1), .map (some b2)] 88))) := (HZ.out _).mono HBB.out
  have hia : -9223372036854775808 ≤ a ∧ a ≤ 9223372036854775807 := by omega
  have hib : -9223372036854775808 ≤ b ∧ b ≤ 9223372036854775807 := by omega
  have HN : Hid (r.length < maxLen) := by show _ < _; unfold maxLen; omega
  cases hf : lookF r a with
  | none =>
    cases hg : lookB r b with
    | none =>
      have HP := Lib.hid (pairR_new hf hg)
      rw [HP.out]
      have HF := Lib.hid (lookF_none.1 hf)
      have HG := Lib.hid (lookB_none.1 hg)
      have HS : Hid (∀ w5 w6, IMapAt Try.prog 3 3 w5 b1 (r.length + 1) (fun j => if j = a then some b else lookF r j) → ((w.alloc (.cells #[.map (some b1), .map (some b2)] 88)).drew).grownBy w5 (some b1) → IMapAt Try.prog 3 3 w6 b2 (r.length + 1) (fun j => if j = b then some a else lookB r j) → w5.grownBy w6 (some b2) → RetPair (some (r ++ [(a, b)])) B b1 b2 w (.returned (.bool true)) w6) := fun w5 w6 m1 g1 m2 g2 => by
        refine ⟨rfl, ?_, ?_, fun r' he => ?_⟩
        · exact (HD.out.drew.grown g1 (by have := HBB.out; simp; omega) (fun j e => by cases e; omega)).grown g2 (by have := HBB.out; have := g1.size; simp at this; omega) (fun j e => by cases e; omega)
        · exact ((Kr.below (HZ.out _).drew).trans (kr_grown g1)).trans (kr_grown2 g2)
        · simp only [Option.some.injEq] at he; subst he
          have hl : (r ++ [(a, b)]).length = r.length + 1 := by simp
          refine ⟨?_, ?_, h.ne, h.one.pair HP.out⟩
          · rw [hl]; exact (m1.block (g2.block _ m1.lt (by simp [h.ne]))).congr (look_snocF HF.out)
          · rw [hl]; exact m2.congr (look_snocB HG.out)
      have X5 : Hid (∀ w5, ((w.alloc (.cells #[.map (some b1), .map (some b2)] 88)).drew).grownBy w5 (some b1) → BoxL w5 w.heap.size [.map (some b1), .map (some b2)] ∧ IMapAt Try.prog 3 3 w5 b2 r.length (lookB r)) := fun w5 g1 => ⟨HX.out.block (g1.block _ (by simp) (by simp; omega)), H0.out.m2.block (g1.block _ (by simp; omega) (by simp; exact Ne.symm h.ne))⟩
      clear h hf hg
      obtain ⟨w5, run5, m5, g5⟩ := imap_update (P := Try.prog) (w.alloc (.cells #[.map (some b1), .map (some b2)] 88)).drew 86 3 3 Try.underlying3 Try.underlying86 Try.underlying3 b1 r.length (lookF r) H0.out.m1 HN.out a hia b hib
      obtain ⟨xb, mb⟩ := X5.out w5 g5
      obtain ⟨w6, run6, m6, g6⟩ := imap_update (P := Try.prog) w5 86 3 3 Try.underlying3 Try.underlying86 Try.underlying3 b2 r.length (lookB r) mb HN.out b hib a hia
      obtain ⟨y0, _⟩ := xb.get 0 rfl
      obtain ⟨y1, _⟩ := xb.get 1 rfl
      have HE := Lib.hid (HS.out w5 w6 m5 g5 m6 g6)
      clear m5 g5 m6 g6 xb mb HS X5
      go_enter Try.func109, Try.ntmps109
      go_upto_region 4 with (first
        | (at_lookup; refine wpList_lookup_imap _ rfl _ _ 86 rfl 3 3 Try.underlying3 Try.underlying86 Try.underlying3 (Try.zeroValue3 _) b1 _ (lookF r) rfl H0.out.m1 a rfl hia ?_; rw [lookF_none.2 HF.out])
        | (at_lookup; refine wpList_lookup_imap _ rfl _ _ 86 rfl 3 3 Try.underlying3 Try.underlying86 Try.underlying3 (Try.zeroValue3 _) b2 _ (lookB r) rfl H0.out.m2 b rfl hib ?_; rw [lookB_none.2 HG.out]))
      go_region
      all_goals
        go_wp2
        go_ret
        exact HE.out
    | some y =>
      have HP := Lib.hid (pairR_no h.one (a := a) (b := b) (by simp [hf, hg]) (by simp [hf]))
      rw [HP.out]
      have HF := Lib.hid hf
      have HG := Lib.hid hg
      clear h hf hg
      go_enter Try.func109, Try.ntmps109
      go_wp2_with (first
        | (at_lookup; refine wpList_lookup_imap _ rfl _ _ 86 rfl 3 3 Try.underlying3 Try.underlying86 Try.underlying3 (Try.zeroValue3 _) b1 _ (lookF r) rfl H0.out.m1 a rfl hia ?_; rw [HF.out])
        | (at_lookup; refine wpList_lookup_imap _ rfl _ _ 86 rfl 3 3 Try.underlying3 Try.underlying86 Try.underlying3 (Try.zeroValue3 _) b2 _ (lookB r) rfl H0.out.m2 b rfl hib ?_; rw [HG.out]))
      go_ret
      exact ⟨rfl, HD.out, Kr.below (HZ.out _), fun r' he => by cases he⟩
  | some x =>
    cases hg : lookB r b with
    | none =>
      have HP := Lib.hid (pairR_no h.one (a := a) (b := b) (by simp [hf, hg]) (by simp [hg]))
      rw [HP.out]
      have HF := Lib.hid hf
      have HG := Lib.hid hg
      clear h hf hg
      go_enter Try.func109, Try.ntmps109
      go_wp2_with (first
        | (at_lookup; refine wpList_lookup_imap _ rfl _ _ 86 rfl 3 3 Try.underlying3 Try.underlying86 Try.underlying3 (Try.zeroValue3 _) b1 _ (lookF r) rfl H0.out.m1 a rfl hia ?_; rw [HF.out])
        | (at_lookup; refine wpList_lookup_imap _ rfl _ _ 86 rfl 3 3 Try.underlying3 Try.underlying86 Try.underlying3 (Try.zeroValue3 _) b2 _ (lookB r) rfl H0.out.m2 b rfl hib ?_; rw [HG.out]))
      go_ret
      exact ⟨rfl, HD.out, Kr.below (HZ.out _), fun r' he => by cases he⟩
    | some y =>
      by_cases hxb : x = b
      · subst hxb
        obtain ⟨h3, h4⟩ := pairR_yes h.one hf
        rw [hg] at h4
        simp only [Option.some.injEq] at h4
        subst h4
        rw [h3]
        have HF := Lib.hid hf
        have HG := Lib.hid hg
        clear h hf hg h3
        go_enter Try.func109, Try.ntmps109
        go_wp2_with (first
          | (at_lookup; refine wpList_lookup_imap _ rfl _ _ 86 rfl 3 3 Try.underlying3 Try.underlying86 Try.underlying3 (Try.zeroValue3 _) b1 _ (lookF r) rfl H0.out.m1 y rfl hia ?_; rw [HF.out])
          | (at_lookup; refine wpList_lookup_imap _ rfl _ _ 86 rfl 3 3 Try.underlying3 Try.underlying86 Try.underlying3 (Try.zeroValue3 _) b2 _ (lookB r) rfl H0.out.m2 x rfl hib ?_; rw [HG.out]))
        go_ret
        exact ⟨rfl, HD.out, Kr.below (HZ.out _), fun r' he => by simp only [Option.some.injEq] at he; subst he; exact H0.out⟩
      · have HP := Lib.hid (pairR_no h.one (a := a) (b := b) (by simp [hf]) (by simp [hf, hxb]))
        rw [HP.out]
        have HF := Lib.hid hf
        have HG := Lib.hid hg
        have hxb' : (x == b) = false := by simpa using hxb
        clear h hf hg hxb
        go_enter Try.func109, Try.ntmps109
        go_wp2_with (first
          | (at_lookup; refine wpList_lookup_imap _ rfl _ _ 86 rfl 3 3 Try.underlying3 Try.underlying86 Try.underlying3 (Try.zeroValue3 _) b1 _ (lookF r) rfl H0.out.m1 a rfl hia ?_; rw [HF.out])
          | (at_lookup; refine wpList_lookup_imap _ rfl _ _ 86 rfl 3 3 Try.underlying3 Try.underlying86 Try.underlying3 (Try.zeroValue3 _) b2 _ (lookB r) rfl H0.out.m2 b rfl hib ?_; rw [HG.out]))
        go_ret
        exact ⟨rfl, HD.out, Kr.below (HZ.out _), fun r' he => by cases he⟩
end Go.Proofs.Ytmffobadnmkpbaa
namespace Go.Proofs.Ytmffobadnmkpbaa
open Go.RowKit Go.Maps

theorem pairR_len {r r' : List (Int × Int)} {a b : Int} (h : pairR r a b = some r') : r'.length ≤ r.length + 1 := by
  unfold pairR at h
  split at h
  · simp only [Option.some.injEq] at h; subst h; simp
  · split at h
    · simp only [Option.some.injEq] at h; subst h; omega
    · cases h
theorem pairsR_len (l : List (Int × Int)) : ∀ {r r' : List (Int × Int)}, pairsR r l = some r' → r'.length ≤ r.length + l.length := by
  induction l with
  | nil => intro r r' h; simp only [pairsR, Option.some.injEq] at h; subst h; simp
  | cons p l ih =>
    intro r r' h
    simp only [pairsR] at h
    cases hp : pairR r p.1 p.2 with
    | none => rw [hp] at h; cases h
    | some r1 =>
      rw [hp] at h
      have := pairR_len hp
      have := ih h
      simp only [List.length_cons]; omega
theorem alikeT_len {r r' : List (Int × Int)} {t u : Tm} (h : alikeT r t u = some r') : r'.length ≤ r.length + t.size := by
  unfold alikeT at h
  split at h
  · have h1 := pairsR_len _ h
    have h2 := t.vs_len
    have h3 : (t.vs.zip u.vs).length ≤ t.vs.length := by rw [List.length_zip]; omega
    omega
  · cases h
/-- what is asked of renaming.alike at a term -/
def AlikeC (B b1 b2 : Nat) (t : Tm) : Prop := ∀ (r : List (Int × Int)) (u : Tm) (va vb : Value) (w : World), RenAt w b1 b2 r → TmAt (fun b => b < B) w t va → TmAt (fun b => b < B) w u vb → t.ok → u.ok → r.length + t.size ≤ 1000000 →
  Calls Try.prog 75 #[.agg #[.map (some b1), .map (some b2)], tmV t va, tmV u vb] w (RetPair (alikeT r t u) B b1 b2 w)
theorem TsAt.inB {B : Nat} {w w' : World} {v : Value} {l : List Tm} (h : TsAt (fun b => b < B) w v l) (hb : Below B w w') : TsAt (fun b => b < B) w' v l := h.mono fun b _ hp => ⟨hp, hb.block b hp⟩
theorem TmAt.inB {B : Nat} {w w' : World} {t : Tm} {a : Value} (h : TmAt (fun b => b < B) w t a) (hb : Below B w w') : TmAt (fun b => b < B) w' t a := h.mono fun b _ hp => ⟨hp, hb.block b hp⟩
set_option maxRecDepth 100000 in
set_option maxHeartbeats 3200000 in
theorem eqFunc_c (B b1 b2 : Nat) (hB1 : B ≤ b1) (_hB2 : B ≤ b2) (r : List (Int × Int)) (va vb : Value) (la lb : List Tm) (w : World) (hr : RenAt w b1 b2 r) (ha : TsAt (fun b => b < B) w va la) (hb : TsAt (fun b => b < B) w vb lb) (hoa : ∀ t ∈ la, t.ok) (hob : ∀ t ∈ lb, t.ok) (hlen : la.length = lb.length) (hn : r.length + Tm.sizes la ≤ 1000000) (hC : ∀ t ∈ la, AlikeC B b1 b2 t) :
    Calls Try.prog 110 #[va, vb, .func (.func 75) #[.agg #[.map (some b1), .map (some b2)]] #[]] w (RetPair (alikeL r la lb) B b1 b2 w) := by
  obtain ⟨ao, ca, rfl, _, _⟩ := ha.shape
  obtain ⟨bo, cb, rfl, _, _⟩ := hb.shape
  have hla : la.length ≤ 1000000 := by have := Tm.sizes_len la; omega
  have HB : Hid (B ≤ w.heap.size) := by show _ ≤ _; have := hr.m1.lt; omega
  have HR := Lib.hid hr
  have HA := Lib.hid ha
  have HBt := Lib.hid hb
  have HC := Lib.hid hC
  have HOA := Lib.hid hoa
  have HOB := Lib.hid hob
  have HL := Lib.hid hlen
  have hlb : lb.length ≤ 1000000 := by omega
  have hne : ((la.length : Int) != lb.length) = false := by rw [hlen]; simp
  have HN := Lib.hid hn
  clear hr ha hb hC hoa hob hn hlen
  go_enter Try.func110, Try.ntmps110
  go_wp2
  go_loopg [17] la.length (fun n i wr => ∃ (k : Nat) (rk : List (Int × Int)), k ≤ la.length ∧ i = .int .i64 k ∧ Hid (n = la.length - k) ∧ Hid (alikeL r la lb = alikeL rk (la.drop k) (lb.drop k)) ∧ Hid (RenAt wr b1 b2 rk) ∧ Hid (Below B w wr) ∧ Hid (Kr b1 b2 w wr) ∧ Hid (rk.length + Tm.sizes (la.drop k) ≤ 1000000))
  case atStart => exact ⟨0, r, by omega, rfl, rfl, rfl, HR, Below.refl _ _, Kr.below (Below.refl _ _), HN⟩
  case round =>
    obtain ⟨k, rk, hk, rfl, HN2, HE, HRk, HW, HK, HS⟩ := hrel
    by_cases hlt : k < la.length
    · have hlt2 : k < lb.length := by have := HL.out; omega
      have hi2 : (k : Int) < lb.length := by omega
      obtain ⟨x1, o1, a1, rfl, -, hcc1, hta⟩ := (HA.out.inB HW.out).get k hlt
      obtain ⟨x2, o2, a2, rfl, -, hcc2, htb⟩ := (HBt.out.inB HW.out).get k hlt2
      obtain ⟨p1, q1, rfl, _⟩ := hta.shape
      obtain ⟨p2, q2, rfl, _⟩ := htb.shape
      have hb1 := hcc1.lt
      have hb2 := hcc2.lt
      have CX := Lib.hid (HC.out la[k] (List.getElem_mem hlt))
      have hot := HOA.out la[k] (List.getElem_mem hlt)
      have hou := HOB.out lb[k] (List.getElem_mem hlt2)
      have HD : Hid (alikeL rk (la.drop k) (lb.drop k) = (alikeT rk la[k] lb[k]).bind fun r' => alikeL r' (la.drop (k + 1)) (lb.drop (k + 1))) := by show _ = _; rw [List.drop_eq_getElem_cons hlt, List.drop_eq_getElem_cons hlt2, alikeL_cons]
      have hsz : Tm.sizes (la.drop k) = la[k].size + Tm.sizes (la.drop (k + 1)) := by rw [List.drop_eq_getElem_cons hlt, Tm.sizes]
      have hs2 : rk.length + la[k].size ≤ 1000000 := by have := HS.out; omega
      have HSZ : Hid (∀ r', alikeT rk la[k] lb[k] = some r' → r'.length + Tm.sizes (la.drop (k + 1)) ≤ 1000000) := fun r' h => by have := alikeT_len h; have := HS.out; omega
      generalize la[k] = t at *
      generalize lb[k] = u at *
      have HBw : Hid (B ≤ wr.heap.size) := by show _ ≤ _; have := HB.out; have := HW.out.size; omega
      have CC : Hid (∀ W, Below wr.heap.size wr W → Calls Try.prog 75 #[.agg #[.map (some b1), .map (some b2)], .agg #[.int .i64 t.kind, .int .i64 t.num, .string t.name, .slice p1 t.args.length q1], .agg #[.int .i64 u.kind, .int .i64 u.num, .string u.name, .slice p2 u.args.length q2]] W (RetPair (alikeT rk t u) B b1 b2 W)) := fun W h => CX.out rk u _ _ W (HRk.out.below h) (hta.inB (h.mono HBw.out)) (htb.inB (h.mono HBw.out)) hot hou hs2
      have B2 := Lib.hid (below_two wr)
      obtain ⟨x0, x1', x2', x3⟩ := hcc1
      obtain ⟨y0, y1, y2, y3⟩ := hcc2
      clear hta htb CX hot hou hsz hs2
      cases hal : alikeT rk t u with
      | none =>
        have HAL := Lib.hid hal
        rw [hal] at CC
        have HF : Hid (alikeL r la lb = none) := by show _ = _; rw [HE.out, HD.out, hal]; rfl
        rw [HF.out]
        clear hal
        go_wp2_with (first | (go_at_call 75; ((with_reducible refine (CC.out _ (B2.out _ _)).mono ?_); rintro e W2 ⟨rfl, bb, kr, -⟩; have BB := Lib.hid bb; have KB := Lib.hid kr; clear bb kr)))
        go_ret
        exact ⟨rfl, HW.out.trans (((B2.out _ _).mono HBw.out).trans BB.out), HK.out.trans ((Kr.below (B2.out _ _)).trans KB.out), fun r' he => by cases he⟩
      | some r2 =>
        have HAL := Lib.hid hal
        rw [hal] at CC
        have HF : Hid (alikeL r la lb = alikeL r2 (la.drop (k + 1)) (lb.drop (k + 1))) := by show _ = _; rw [HE.out, HD.out, hal]; rfl
        clear hal
        go_wp2_with (first | (go_at_call 75; ((with_reducible refine (CC.out _ (B2.out _ _)).mono ?_); rintro e W2 ⟨rfl, bb, kr, rn⟩; have BB := Lib.hid bb; have KB := Lib.hid kr; have RN := Lib.hid (rn r2 rfl); clear bb kr rn)))
        go_roundg (la.length - (k + 1))
        case measure => have := HN2.out; omega
        case rel => exact ⟨k + 1, r2, by omega, by go_num, rfl, HF, RN, HW.out.trans (((B2.out _ _).mono HBw.out).trans BB.out), HK.out.trans ((Kr.below (B2.out _ _)).trans KB.out), HSZ.out r2 HAL.out⟩
    · obtain rfl : k = la.length := by omega
      have HF : Hid (alikeL r la lb = some rk) := by show _ = _; rw [HE.out, List.drop_length, HL.out, List.drop_length, alikeL_nil]
      go_wp2
      go_ret
      have h9 : RetPair (alikeL r la lb) B b1 b2 w (.returned (.bool true)) wr := by
        rw [HF.out]; exact ⟨rfl, HW.out, HK.out, fun r' he => by simp only [Option.some.injEq] at he; subst he; exact HRk.out⟩
      exact h9
end Go.Proofs.Ytmffobadnmkpbaa
namespace Go.Proofs.Ytmffobadnmkpbaa
open Go.RowKit

theorem Tm.vss_take_end (l : List Tm) : Tm.vss (l.take l.length) = Tm.vss l := by rw [List.take_length]
theorem Tm.vs_args {t : Tm} (h : t.kind ≠ 1) : t.vs = Tm.vss t.args := by
  cases t <;> simp [Tm.kind] at h <;> simp [Tm.vs, Tm.args, Tm.vss]
set_option maxRecDepth 100000 in
set_option maxHeartbeats 3200000 in
theorem walk_step (h : Nat) (w0 : World) (_hh : w0.heap.size = h) (t : Tm) (va : Value) (wq : World) (v : Value) (L : List Int) (hB : VB h w0 wq v L L) (ht : TmAt (fun b => b < h) w0 t va) (hok : t.ok) (hn : L.length + t.size ≤ 100000000) (hC : ∀ u ∈ t.args, WalkC h w0 u) :
    Calls Try.prog 63 #[tmV t va, .pointer (some ⟨h + 3, 0, none⟩), .pointer (some ⟨h + 1, 0, none⟩), .pointer (some ⟨h + 4, 0, none⟩)] wq fun e w' => e = .returned (.tuple #[]) ∧ ∃ v', VB h w0 w' v' (addVs L t.vs) (addVs L t.vs) := by
  have h4 := fun h => ht.nil_of h
  obtain ⟨ao, cc, rfl, hc1, hc2⟩ := ht.shape
  have HT := Lib.hid (TsAt.of_tm ht)
  have HC := Lib.hid hC
  have HB := Lib.hid hB
  have HN := Lib.hid hn
  have HOK := Lib.hid (Tm.ok_args hok)
  have hsz := hB.size
  obtain ⟨i0, hi, hz0, hz1, hz2⟩ := info_parts Try.infoInt
  have HA : Hid (∀ W, Calls Try.prog 62 #[.agg #[.int .i64 t.kind, .int .i64 t.num, .string t.name, .slice ao t.args.length cc]] W fun e w' => e = .returned (.slice ao t.args.length cc) ∧ Below W.heap.size W w') := fun W => args_c t _ _ _ h4 W
  by_cases hk : t.kind = 1
  · obtain ⟨n, rfl, hn5⟩ := Tm.ok_var hok hk
    have hnn : (0 : Int) ≤ n ∧ (n : Int) < 5000 := by omega
    have h0 := fun hk => h4 hk
    have he := h4 (by simp [Tm.kind])
    simp only [Value.slice.injEq, Tm.args, List.length_nil] at he
    obtain ⟨rfl, -, rfl⟩ := he
    have HBX := Lib.hid (BoxL.mk' wq #[.int .i64 1, .int .i64 n, .string ByteArray.empty, .slice none 0 0] 24)
    have HB1 := Lib.hid (HB.out.below (below_one wq (.cells #[.int .i64 1, .int .i64 n, .string ByteArray.empty, .slice none 0 0] 24)))
    have HA1 : Hid (∀ W, Calls Try.prog 62 #[.agg #[.int .i64 1, .int .i64 n, .string ByteArray.empty, .slice none 0 0]] W fun e w' => e = .returned (.slice none 0 0) ∧ Below W.heap.size W w') := HA.out
    clear h0 h4 ht hC hB hok hk hc1 hc2 HC HT HA
    by_cases hm : (n : Int) ∈ L
    · have HK : Hid (addVs L (Tm.vs (.var n)) = L) := by show _ = _; simp [Tm.vs, addVs_cons, addVs_nil, addV_mem hm]
      rw [HK.out]
      have hd : Hid (decide ((n : Int) ∈ L) = true) := decide_eq_true hm
      have hhn : L.length ≤ 100000000 := by omega
      clear hm HK hn
      change Calls _ _ #[.agg #[.int .i64 1, .int .i64 n, .string ByteArray.empty, .slice none 0 0], _, _, _] _ _
      have sn := HB1.out.seen.c0
      go_enter Try.func63, Try.ntmps63
      go_wp2_with (first
        | (at_lookup; refine wpList_lookup_setG _ rfl _ _ 74 rfl Try.underlying3 Try.underlying74 Try.underlying4 (Try.zeroValue4 _) (h + 2) L.length _ rfl HB1.out.set n rfl (by omega) ?_; rw [hd.out])
        | (go_at_call 62; ((with_reducible refine (HA1.out _).mono ?_); rintro e W1 ⟨rfl, bb⟩; have B1 := Lib.hid (HB1.out.below bb); clear bb)))
      go_loopg [28] 0 (fun n i wr => i = .int .i64 0 ∧ Hid (wr = W1))
      case atStart => exact ⟨rfl, rfl⟩
      case round =>
        obtain ⟨rfl, HW⟩ := hrel
        go_wp2
        go_end0
        exact ⟨rfl, v, by rw [HW.out]; exact B1.out⟩
    · have HK : Hid (addVs L (Tm.vs (.var n)) = L ++ [(n : Int)]) := by show _ = _; simp [Tm.vs, addVs_cons, addVs_nil, addV_new hm]
      rw [HK.out]
      have hd : Hid (decide ((n : Int) ∈ L) = false) := decide_eq_false hm
      have hhn : L.length < 100000000 := by simp [Tm.size] at hn; omega
      clear hm HK hn
      change Calls _ _ #[.agg #[.int .i64 1, .int .i64 n, .string ByteArray.empty, .slice none 0 0], _, _, _] _ _
      have sn := HB1.out.seen.c0
      obtain ⟨f0, _⟩ := HBX.out.get 0 rfl
      obtain ⟨f1, _⟩ := HBX.out.get 1 rfl
      have HP : Hid (∀ w5, SetAt Try.prog 3 4 w5 (h + 2) (L.length + 1) (fun j => if j = (n : Int) then true else decide (j ∈ L)) → (wq.alloc (.cells #[.int .i64 1, .int .i64 n, .string ByteArray.empty, .slice none 0 0] 24)).grownBy w5 (some (h + 2)) → VB h w0 w5 v L (L ++ [(n : Int)]) ∧ BoxL w5 wq.heap.size [.int .i64 1, .int .i64 n, .string ByteArray.empty, .slice none 0 0] ∧ wq.heap.size < w5.heap.size) := fun w5 hs hg => by
        refine ⟨HB1.out.grown hg ?_, HBX.out.block (hg.block _ (by simp) (by simp; omega)), by have := hg.size; simp at this; omega⟩
        have hs' : SetAt Try.prog 3 4 w5 (h + 2) (L ++ [(n : Int)]).length (fun j => if j = (n : Int) then true else decide (j ∈ L)) := by simpa using hs
        exact hs'.congr fun j => by by_cases e : j = (n : Int) <;> simp [e]
      go_enter Try.func63, Try.ntmps63
      go_wp2_with (first
        | (at_lookup; refine wpList_lookup_setG _ rfl _ _ 74 rfl Try.underlying3 Try.underlying74 Try.underlying4 (Try.zeroValue4 _) (h + 2) L.length _ rfl HB1.out.set n rfl (by omega) ?_; rw [hd.out])
        | (at_mapUpdate; refine wpList_mapUpdate_set _ rfl _ _ _ 74 rfl 3 4 Try.underlying3 Try.underlying74 Try.underlying4 (h + 2) L.length _ rfl HB1.out.set (by unfold maxLen; omega) n rfl (by omega) true rfl ?_; intro w5 hs5 hg5; obtain ⟨hv5, hx5, hz5⟩ := HP.out w5 hs5 hg5; have V5 := Lib.hid hv5; have X5 := Lib.hid hx5; obtain ⟨f0, _⟩ := hx5.get 0 rfl; obtain ⟨f1, _⟩ := hx5.get 1 rfl; have o5 := hv5.obox.c0; clear hs5 hg5 hv5 hx5)
        | (at_builtin; refine wpList_appendX rfl (.tmp 20) (.tmp 23) 29 rfl (h + 5) 3 i0 (.int .i64 0) 1 8 Try.underlying29 hi hz0 hz1 hz2 rfl (by decide) _ L.length (L.map (Value.int .i64)) rfl V5.out.own _ _ rfl rfl rfl (one1 rfl) ⟨by omega, by omega⟩ V5.out.size ?_; intro g cap w6 ho6 hb6 hk6 hl6; have V6 := Lib.hid (V5.out.app rfl ho6 hb6 hk6); have F6 := Lib.hid (V5.out.obox.kept hk6 (own_ne V5.out.own (by omega))); have X6 := Lib.hid ((X5.out.kept (by simp) hk6 (own_far HB.out.own (Nat.le_refl _)))); have f6 := F6.out.f0; have o6 := F6.out.c0; have X7 := Lib.hid (X6.out.far (a := ⟨h + 1, 0, none⟩) (by simp; omega) (.slice (some ⟨g, 0, none⟩) (L.length + 1) cap)); obtain ⟨g0, _⟩ := X7.out.get 0 rfl; obtain ⟨g1, _⟩ := X7.out.get 1 rfl; obtain ⟨g2, _⟩ := X7.out.get 2 rfl; obtain ⟨g3, _⟩ := X7.out.get 3 rfl)
        | (go_at_call 62; ((with_reducible refine (HA1.out _).mono ?_); rintro e W1 ⟨rfl, bb⟩; have B1 := Lib.hid (V6.out.below bb); clear bb)))
      go_loopg [28] 0 (fun n i wr => i = .int .i64 0 ∧ Hid (wr = W1))
      case atStart => exact ⟨rfl, rfl⟩
      case round =>
        obtain ⟨rfl, HW⟩ := hrel
        go_wp2
        go_end0
        exact ⟨rfl, _, by rw [HW.out]; exact B1.out⟩
  · have hkb : (t.kind == 1) = false := by simpa using hk
    have HV := Lib.hid (Tm.vs_args hk)
    have hl : t.args.length ≤ 100000000 := by have h1 := Tm.sizes_len t.args; have h2 := t.size_eq; omega
    have HS := Lib.hid t.size_eq
    have HZ := Lib.hid (below_one wq)
    obtain ⟨K, hK⟩ : ∃ K, K = t.vs := ⟨_, rfl⟩
    have HKK := Lib.hid hK
    rw [← hK]
    clear hK ht hC h4 hB hn hok hk hc1 hc2
    unfold tmV
    generalize t.args = l at *
    go_enter Try.func63, Try.ntmps63
    go_wp2_with (first | (go_at_call 62; ((with_reducible refine (HA.out _).mono ?_); rintro e W1 ⟨rfl, bb⟩; have B1 := Lib.hid (HB.out.below ((HZ.out _).trans (bb.mono (by simp)))); clear bb)))
    go_loopg [28] l.length (fun n i wr => ∃ (k : Nat) (v' : Value), k ≤ l.length ∧ i = .int .i64 k ∧ Hid (n = l.length - k) ∧ Hid (VB h w0 wr v' (addVs L (Tm.vss (l.take k))) (addVs L (Tm.vss (l.take k)))))
    case atStart => exact ⟨0, v, by omega, rfl, rfl, Lib.hid (by simpa [Tm.vss, addVs_nil] using B1.out)⟩
    case round =>
      obtain ⟨k, v', hk, rfl, HN2, HW⟩ := hrel
      by_cases hlt : k < l.length
      · have hb := HW.out.bel
        obtain ⟨b, off, a1, rfl, hpb, hcc, hta⟩ := HT.out.get k hlt
        obtain ⟨ao1, c1, rfl, _⟩ := hta.shape
        have CX := Lib.hid (HC.out l[k] (List.getElem_mem hlt))
        have HD := Lib.hid (Tm.vss_take l k hlt)
        have HO := Lib.hid (HOK.out l[k] (List.getElem_mem hlt))
        have hbb : (addVs L (Tm.vss (l.take k))).length + l[k].size ≤ 100000000 := by
          have h1 := HN.out; have h2 := HS.out; have h3 := Tm.sizes_take l k hlt; have h4 := Tm.sizes_take_le l (k + 1)
          have h5 := addVs_len L (Tm.vss (l.take k))
          have h6 : (Tm.vss (l.take k)).length ≤ Tm.sizes (l.take k) := Tm.vss_len _
          omega
        generalize l[k] = u at *
        have hcw := hcc.block (hb.block _ hpb)
        obtain ⟨x0, x1, x2, x3⟩ := hcw
        have hbl := World.block_lt_of_cell? wr _ x0
        have wlk := HW.out.walk.c0
        have HU := Lib.hid hta
        have HZ2 := Lib.hid (below_one wr)
        have hwb := World.block_lt_of_cell? wr _ wlk
        have CC : Hid (∀ W, Below wr.heap.size wr W → Calls Try.prog 63 #[.agg #[.int .i64 u.kind, .int .i64 u.num, .string u.name, .slice ao1 u.args.length c1], .pointer (some ⟨h + 3, 0, none⟩), .pointer (some ⟨h + 1, 0, none⟩), .pointer (some ⟨h + 4, 0, none⟩)] W fun e w' => e = .returned (.tuple #[]) ∧ ∃ v'', VB h w0 w' v'' (addVs (addVs L (Tm.vss (l.take k))) u.vs) (addVs (addVs L (Tm.vss (l.take k))) u.vs)) := fun W hW => CX.out _ W v' _ (HW.out.below hW) HU.out HO.out hbb
        clear hta CX hb hcc hbb
        go_wp2_with (first | (go_at_call 63; ((with_reducible refine (CC.out _ (HZ2.out _)).mono ?_); rintro e W2 ⟨rfl, v2, bb⟩; have BB := Lib.hid bb; clear bb)))
        go_roundg (l.length - (k + 1))
        case measure => have := HN2.out; omega
        case rel => exact ⟨k + 1, v2, by omega, by go_num, rfl, Lib.hid (by rw [HD.out, addVs_append]; exact BB.out)⟩
      · obtain rfl : k = l.length := by omega
        go_wp2
        go_end0
        exact ⟨rfl, v', by rw [HKK.out, HV.out, ← Tm.vss_take_end]; exact HW.out⟩
end Go.Proofs.Ytmffobadnmkpbaa
