/-
  A map[int]int OF THE CALL'S OWN; renaming.pair, walked.
  renaming.pair, walked.
  slices.EqualFunc over two lists of terms under a renaming, walked over the contract of the first one's terms.
  renaming.alike, and term.Variant, walked.
  term.Variant, walked.
-/
import Derived.Test.YtmffobadnmkpbaaKtmc3
import Derived.Test.YtmffobadnmkpbaaKlib1
import Derived.Test.YtmffobadnmkpbaaKtmc2
import Derived.Deep.RegionHeldLaw
import Derived.Deep.RegionHeld3
import Derived.Deep.Cut
import Derived.Deep.RegionLaw
import Derived.Handy
import Derived.Test.YtmffobadnmkpbaaKtmc1
import Derived.Deep.LoopGhost
namespace Go.Proofs.Ytmffobadnmkpbaa
open Go.RowKit Go.Maps

/-- block b is a map of at most n entries, that reads as F -/
def IMapAt (P : Program) (K E : TypeId) (w : World) (b n : Nat) (F : Int → Option Int) : Prop :=
  ∃ D : DataW Unit, w.ownsMap P K (plainElem P E) b n D ∧ IsMap D ∧ ∀ i, has D (.int .i64 i) = (F i).isSome ∧ D.atKey (.int .i64 i) (.lit (.int .i64 0)) = .lit (.int .i64 ((F i).getD 0))
variable {P : Program} {K E : TypeId} {w w' : World} {b n : Nat} {F : Int → Option Int}
theorem IMapAt.made (w : World) : IMapAt P K E (w.alloc (.map #[] 0)) w.heap.size 0 (fun _ => none) :=
  ⟨.map [], World.ownsMap_made w P K _, ⟨[], rfl⟩, fun _ => ⟨rfl, rfl⟩⟩
theorem IMapAt.block (h : IMapAt P K E w b n F) (e : w'.heap[b]? = w.heap[b]?) : IMapAt P K E w' b n F := by
  obtain ⟨D, ⟨es, clock, hb, hF, hs, hD⟩, h2, h3⟩ := h
  exact ⟨D, ⟨es, clock, e.trans hb, hF, hs, hD⟩, h2, h3⟩
theorem IMapAt.lt (h : IMapAt P K E w b n F) : b < w.heap.size := by
  obtain ⟨D, h1, _⟩ := h; exact h1.lt
theorem IMapAt.congr (h : IMapAt P K E w b n F) {G : Int → Option Int} (e : ∀ i, F i = G i) : IMapAt P K E w b n G := by
  obtain ⟨D, h1, h2, h3⟩ := h; exact ⟨D, h1, h2, fun i => by rw [← e]; exact h3 i⟩
/-- 'v, ok := m[i]' -/
theorem wpList_lookup_imap {ops : Array Oper} {rest : List Oper} {o : Oper} {a : Act} {Q : Exit → Act → World → Prop} (w : World) (hg : o.guard = none) (m x : Operand) (t : TypeId) (hop : o.op = Op.lookup t m x true)
    (K E : TypeId) (hK : P.underlying K = some (.int .i64)) (ht : P.underlying t = some (.map K E)) (hE : P.underlying E = some (.int .i64)) (hz : (zeroValue E).run P w = .ok (.int .i64 0) w)
    (b n : Nat) (F : Int → Option Int) (hm : a.eval m = .map (some b)) (h : IMapAt P K E w b n F) (i : Int) (hx : a.eval x = .int .i64 i) (hi : -9223372036854775808 ≤ i ∧ i ≤ 9223372036854775807)
    (hk : wpList P ops Q rest (a.put o.dst (.tuple #[.int .i64 ((F i).getD 0), .bool (F i).isSome])) w) : wpList P ops Q (o :: rest) a w := by
  obtain ⟨D, h1, h2, h3⟩ := h
  refine wpList_lookup_own_ok_int w hg m x t hop K E .i64 (int_keyed hK) ht hE hz b n D hm h1 _ (.int .i64 i) hx (keyOf_int_mk hK (wf64 hi)) (fun c hc _ => ?_)
  obtain ⟨e1, e2⟩ := h3 i
  rw [hc] at e2
  simp only [DataW.lit.injEq, Lit.int.injEq, true_and] at e2
  rw [e1, e2]
  exact hk
/-- 'm[i] = c', as a run -/
theorem imap_update (w : World) (t : TypeId) (K E : TypeId) (hK : P.underlying K = some (.int .i64)) (ht : P.underlying t = some (.map K E)) (hE : P.underlying E = some (.int .i64))
    (b n : Nat) (F : Int → Option Int) (h : IMapAt P K E w b n F) (hn : n < maxLen) (i : Int) (hi : -9223372036854775808 ≤ i ∧ i ≤ 9223372036854775807) (c : Int) (hc : -9223372036854775808 ≤ c ∧ c ≤ 9223372036854775807) :
    ∃ w', (Instr.mapUpdate t (.map (some b)) (.int .i64 i) (.int .i64 c)).run P w = .ok () w' ∧ IMapAt P K E w' b (n + 1) (fun j => if j = i then some c else F j) ∧ w.grownBy w' (some b) := by
  obtain ⟨D, h1, h2, h3⟩ := h
  obtain ⟨w', hrun, r1, r2⟩ := h1.update (int_keyed hK) ht hn (keyOf_int_mk hK (wf64 hi)) (plainElem_int hE (wf64 hc))
  refine ⟨w', hrun, ⟨_, r1, put_map h2 _ _, fun j => ?_⟩, r2⟩
  by_cases e : j = i
  · subst e
    rw [atKey_put_same h2 (k := .int .i64 j) trivial, has_put_same h2 (k := .int .i64 j) trivial]; simp
  · rw [atKey_put_other (by simpa using e), has_put_other (by simpa using e)]; simp [e, h3 j]
def lookF (r : List (Int × Int)) (i : Int) : Option Int := (r.find? (fun p => p.1 == i)).map Prod.snd
def lookB (r : List (Int × Int)) (i : Int) : Option Int := (r.find? (fun p => p.2 == i)).map Prod.fst
theorem lookF_none {r : List (Int × Int)} {a : Int} : lookF r a = none ↔ a ∉ r.map Prod.fst := by
  induction r with
  | nil => simp [lookF]
  | cons p r ih =>
    unfold lookF at *
    by_cases h : p.1 = a
    · simp [h]
    · have : (p.1 == a) = false := by simpa using h
      rw [List.find?_cons, this]; simp only [ih, List.map_cons, List.mem_cons, not_or]; exact ⟨fun h2 => ⟨Ne.symm h, h2⟩, fun h2 => h2.2⟩
theorem lookB_none {r : List (Int × Int)} {a : Int} : lookB r a = none ↔ a ∉ r.map Prod.snd := by
  induction r with
  | nil => simp [lookB]
  | cons p r ih =>
    unfold lookB at *
    by_cases h : p.2 = a
    · simp [h]
    · have : (p.2 == a) = false := by simpa using h
      rw [List.find?_cons, this]; simp only [ih, List.map_cons, List.mem_cons, not_or]; exact ⟨fun h2 => ⟨Ne.symm h, h2⟩, fun h2 => h2.2⟩
theorem lookF_some {r : List (Int × Int)} (h : OneR r) {a c : Int} : lookF r a = some c ↔ (a, c) ∈ r := by
  replace h := h.1
  induction r with
  | nil => simp [lookF]
  | cons p r ih =>
    obtain ⟨x, y⟩ := p
    have hn := List.nodup_cons.1 (by simpa using h : (x :: r.map Prod.fst).Nodup)
    have ih := ih hn.2
    unfold lookF at *
    by_cases hx : x = a
    · subst hx
      rw [List.find?_cons]
      simp only [BEq.rfl, Option.map_some, Option.some.injEq, List.mem_cons, Prod.mk.injEq, true_and]
      exact ⟨fun e => .inl e.symm, fun e => by rcases e with e | e; (· exact e.symm); (· exact absurd (List.mem_map.2 ⟨_, e, rfl⟩) hn.1)⟩
    · have : (x == a) = false := by simpa using hx
      rw [List.find?_cons, this]
      simp only [ih, List.mem_cons, Prod.mk.injEq]
      exact ⟨.inr, fun e => by rcases e with e | e; (· exact absurd e.1.symm hx); (· exact e)⟩
theorem lookB_some {r : List (Int × Int)} (h : OneR r) {a c : Int} : lookB r c = some a ↔ (a, c) ∈ r := by
  replace h := h.2
  induction r with
  | nil => simp [lookB]
  | cons p r ih =>
    obtain ⟨x, y⟩ := p
    have hn := List.nodup_cons.1 (by simpa using h : (y :: r.map Prod.snd).Nodup)
    have ih := ih hn.2
    unfold lookB at *
    by_cases hx : y = c
    · subst hx
      rw [List.find?_cons]
      simp only [BEq.rfl, Option.map_some, Option.some.injEq, List.mem_cons, Prod.mk.injEq, and_true]
      exact ⟨fun e => .inl e.symm, fun e => by rcases e with e | e; (· exact e.symm); (· exact absurd (List.mem_map.2 ⟨_, e, rfl⟩) hn.1)⟩
    · have : (y == c) = false := by simpa using hx
      rw [List.find?_cons, this]
      simp only [ih, List.mem_cons, Prod.mk.injEq]
      exact ⟨.inr, fun e => by rcases e with e | e; (· exact absurd e.2.symm hx); (· exact e)⟩
/-- a renaming's two maps in memory -/
structure RenAt (w : World) (b1 b2 : Nat) (r : List (Int × Int)) : Prop where
  m1 : IMapAt Try.prog 3 3 w b1 r.length (lookF r)
  m2 : IMapAt Try.prog 3 3 w b2 r.length (lookB r)
  ne : b1 ≠ b2
  one : OneR r
/-- all but the two maps stays -/
def Kr (b1 b2 : Nat) (w w' : World) : Prop := w.heap.size ≤ w'.heap.size ∧ ∀ k, k < w.heap.size → k ≠ b1 → k ≠ b2 → w'.heap[k]? = w.heap[k]?
theorem Kr.trans {b1 b2 : Nat} {w w' w'' : World} (h1 : Kr b1 b2 w w') (h2 : Kr b1 b2 w' w'') : Kr b1 b2 w w'' :=
  ⟨Nat.le_trans h1.1 h2.1, fun k a b c => (h2.2 k (Nat.lt_of_lt_of_le a h1.1) b c).trans (h1.2 k a b c)⟩
theorem Kr.below {b1 b2 : Nat} {w w' : World} (h : Below w.heap.size w w') : Kr b1 b2 w w' := ⟨h.size, fun k a _ _ => h.block k a⟩
theorem RenAt.below {w w' : World} {b1 b2 : Nat} {r : List (Int × Int)} (h : RenAt w b1 b2 r) (hb : Below w.heap.size w w') : RenAt w' b1 b2 r :=
  ⟨h.m1.block (hb.block _ h.m1.lt), h.m2.block (hb.block _ h.m2.lt), h.ne, h.one⟩
theorem look_snocF {r : List (Int × Int)} {a c : Int} (h : a ∉ r.map Prod.fst) (j : Int) : (if j = a then some c else lookF r j) = lookF (r ++ [(a, c)]) j := by
  unfold lookF
  rw [List.find?_append]
  by_cases e : j = a
  · subst e
    have := lookF_none.2 h
    unfold lookF at this
    have h0 : r.find? (fun p => p.1 == j) = none := by simpa using this
    simp [h0]
  · have : (a == j) = false := by simpa using Ne.symm e
    simp [e, this]
theorem look_snocB {r : List (Int × Int)} {a c : Int} (h : c ∉ r.map Prod.snd) (j : Int) : (if j = c then some a else lookB r j) = lookB (r ++ [(a, c)]) j := by
  unfold lookB
  rw [List.find?_append]
  by_cases e : j = c
  · subst e
    have := lookB_none.2 h
    unfold lookB at this
    have h0 : r.find? (fun p => p.2 == j) = none := by simpa using this
    simp [h0]
  · have : (c == j) = false := by simpa using Ne.symm e
    simp [e, this]
end Go.Proofs.Ytmffobadnmkpbaa
namespace Go.Proofs.Ytmffobadnmkpbaa
open Go.RowKit Go.Maps

theorem kr_grown {b1 b2 : Nat} {w w' : World} (h : w.grownBy w' (some b1)) : Kr b1 b2 w w' := ⟨h.size, fun k a b _ => h.block k a (by simpa using b)⟩
theorem kr_grown2 {b1 b2 : Nat} {w w' : World} (h : w.grownBy w' (some b2)) : Kr b1 b2 w w' := ⟨h.size, fun k a _ b => h.block k a (by simpa using b)⟩
theorem pairR_new {r : List (Int × Int)} {a b : Int} (h1 : lookF r a = none) (h2 : lookB r b = none) : pairR r a b = some (r ++ [(a, b)]) := by
  unfold pairR; rw [if_pos ⟨lookF_none.1 h1, lookB_none.1 h2⟩]
theorem pairR_no {r : List (Int × Int)} (h : OneR r) {a b : Int} (h1 : ¬ (lookF r a = none ∧ lookB r b = none)) (h2 : ¬ (lookF r a = some b ∧ lookB r b = some a)) : pairR r a b = none := by
  unfold pairR
  rw [if_neg (fun hh => h1 ⟨lookF_none.2 hh.1, lookB_none.2 hh.2⟩), if_neg (fun hm => h2 ⟨(lookF_some h).2 hm, (lookB_some h).2 hm⟩)]
theorem pairR_yes {r : List (Int × Int)} (h : OneR r) {a b : Int} (h1 : lookF r a = some b) : pairR r a b = some r ∧ lookB r b = some a := by
  have hm := (lookF_some h).1 h1
  refine ⟨?_, (lookB_some h).2 hm⟩
  unfold pairR
  rw [if_neg (fun hh => hh.1 (List.mem_map.2 ⟨_, hm, rfl⟩)), if_pos hm]
/-- what pair and alike tell -/
def RetPair (x : Option (List (Int × Int))) (B b1 b2 : Nat) (w : World) (e : Ending) (w' : World) : Prop := e = .returned (.bool x.isSome) ∧ Below B w w' ∧ Kr b1 b2 w w' ∧ ∀ r', x = some r' → RenAt w' b1 b2 r'
set_option maxRecDepth 100000 in
set_option maxHeartbeats 3200000 in
theorem pair_c (B b1 b2 : Nat) (r : List (Int × Int)) (a b : Int) (w : World) (h : RenAt w b1 b2 r) (hB1 : B ≤ b1) (hB2 : B ≤ b2) (hr : r.length ≤ 1000000) (ha : 0 ≤ a ∧ a < 5000) (hb : 0 ≤ b ∧ b < 5000) :
    Calls Try.prog 109 #[.agg #[.map (some b1), .map (some b2)], .int .i64 a, .int .i64 b] w (RetPair (pairR r a b) B b1 b2 w) := by
  have hl1 := h.m1.lt
  have hl2 := h.m2.lt
  have HBB := Lib.hid (show B ≤ w.heap.size by omega)
  have HZ : Hid (∀ o, Below w.heap.size w (w.alloc o)) := fun o => (Below.refl _ _).alloc (Nat.le_refl _) o
  have H0 := Lib.hid (h.below (HZ.out (.cells #[.map (some b1), .map (some b2)] 88)))
  have HX := Lib.hid (BoxL.mk' w #[.map (some b1), .map (some b2)] 88)
  have H1 := Lib.hid h
  have HD : Hid (Below B w (w.alloc (.cells #[.map (some b1), .map (some b2)] 88))) := (HZ.out _).mono HBB.out
  have hia : -9223372036854775808 ≤ a ∧ a ≤ 9223372036854775807 := by omega
  have hib : -9223372036854775808 ≤ b ∧ b ≤ 9223372036854775807 := by omega
  have HN : Hid (r.length < maxLen) := by show _ < _; unfold maxLen; omega
  cases hf : lookF r a with
  | none =>
    cases hg : lookB r b with
    | none =>
      have HP := Lib.hid (pairR_new hf hg)
      rw [HP.out]
      have HF := Lib.hid (lookF_none.1 hf)
      have HG := Lib.hid (lookB_none.1 hg)
      have HS : Hid (∀ w5 w6, IMapAt Try.prog 3 3 w5 b1 (r.length + 1) (fun j => if j = a then some b else lookF r j) → ((w.alloc (.cells #[.map (some b1), .map (some b2)] 88)).drew).grownBy w5 (some b1) → IMapAt Try.prog 3 3 w6 b2 (r.length + 1) (fun j => if j = b then some a else lookB r j) → w5.grownBy w6 (some b2) → RetPair (some (r ++ [(a, b)])) B b1 b2 w (.returned (.bool true)) w6) := fun w5 w6 m1 g1 m2 g2 => by
        refine ⟨rfl, ?_, ?_, fun r' he => ?_⟩
        · exact (HD.out.drew.grown g1 (by have := HBB.out; simp; omega) (fun j e => by cases e; omega)).grown g2 (by have := HBB.out; have := g1.size; simp at this; omega) (fun j e => by cases e; omega)
        · exact ((Kr.below (HZ.out _).drew).trans (kr_grown g1)).trans (kr_grown2 g2)
        · simp only [Option.some.injEq] at he; subst he
          have hl : (r ++ [(a, b)]).length = r.length + 1 := by simp
          refine ⟨?_, ?_, h.ne, h.one.pair HP.out⟩
          · rw [hl]; exact (m1.block (g2.block _ m1.lt (by simp [h.ne]))).congr (look_snocF HF.out)
          · rw [hl]; exact m2.congr (look_snocB HG.out)
      have X5 : Hid (∀ w5, ((w.alloc (.cells #[.map (some b1), .map (some b2)] 88)).drew).grownBy w5 (some b1) → BoxL w5 w.heap.size [.map (some b1), .map (some b2)] ∧ IMapAt Try.prog 3 3 w5 b2 r.length (lookB r)) := fun w5 g1 => ⟨HX.out.block (g1.block _ (by simp) (by simp; omega)), H0.out.m2.block (g1.block _ (by simp; omega) (by simp; exact Ne.symm h.ne))⟩
      clear h hf hg
      obtain ⟨w5, run5, m5, g5⟩ := imap_update (P := Try.prog) (w.alloc (.cells #[.map (some b1), .map (some b2)] 88)).drew 86 3 3 Try.underlying3 Try.underlying86 Try.underlying3 b1 r.length (lookF r) H0.out.m1 HN.out a hia b hib
      obtain ⟨xb, mb⟩ := X5.out w5 g5
      obtain ⟨w6, run6, m6, g6⟩ := imap_update (P := Try.prog) w5 86 3 3 Try.underlying3 Try.underlying86 Try.underlying3 b2 r.length (lookB r) mb HN.out b hib a hia
      obtain ⟨y0, _⟩ := xb.get 0 rfl
      obtain ⟨y1, _⟩ := xb.get 1 rfl
      have HE := Lib.hid (HS.out w5 w6 m5 g5 m6 g6)
      clear m5 g5 m6 g6 xb mb HS X5
      go_enter Try.func109, Try.ntmps109
      go_upto_region 4 with (first
        | (at_lookup; refine wpList_lookup_imap _ rfl _ _ 86 rfl 3 3 Try.underlying3 Try.underlying86 Try.underlying3 (Try.zeroValue3 _) b1 _ (lookF r) rfl H0.out.m1 a rfl hia ?_; rw [lookF_none.2 HF.out])
        | (at_lookup; refine wpList_lookup_imap _ rfl _ _ 86 rfl 3 3 Try.underlying3 Try.underlying86 Try.underlying3 (Try.zeroValue3 _) b2 _ (lookB r) rfl H0.out.m2 b rfl hib ?_; rw [lookB_none.2 HG.out]))
      go_region
      all_goals
        go_wp2
        go_ret
        exact HE.out
    | some y =>
      have HP := Lib.hid (pairR_no h.one (a := a) (b := b) (by simp [hf, hg]) (by simp [hf]))
      rw [HP.out]
      have HF := Lib.hid hf
      have HG := Lib.hid hg
      clear h hf hg
      go_enter Try.func109, Try.ntmps109
      go_wp2_with (first
        | (at_lookup; refine wpList_lookup_imap _ rfl _ _ 86 rfl 3 3 Try.underlying3 Try.underlying86 Try.underlying3 (Try.zeroValue3 _) b1 _ (lookF r) rfl H0.out.m1 a rfl hia ?_; rw [HF.out])
        | (at_lookup; refine wpList_lookup_imap _ rfl _ _ 86 rfl 3 3 Try.underlying3 Try.underlying86 Try.underlying3 (Try.zeroValue3 _) b2 _ (lookB r) rfl H0.out.m2 b rfl hib ?_; rw [HG.out]))
      go_ret
      exact ⟨rfl, HD.out, Kr.below (HZ.out _), fun r' he => by cases he⟩
  | some x =>
    cases hg : lookB r b with
    | none =>
      have HP := Lib.hid (pairR_no h.one (a := a) (b := b) (by simp [hf, hg]) (by simp [hg]))
      rw [HP.out]
      have HF := Lib.hid hf
      have HG := Lib.hid hg
      clear h hf hg
      go_enter Try.func109, Try.ntmps109
      go_wp2_with (first
        | (at_lookup; refine wpList_lookup_imap _ rfl _ _ 86 rfl 3 3 Try.underlying3 Try.underlying86 Try.underlying3 (Try.zeroValue3 _) b1 _ (lookF r) rfl H0.out.m1 a rfl hia ?_; rw [HF.out])
        | (at_lookup; refine wpList_lookup_imap _ rfl _ _ 86 rfl 3 3 Try.underlying3 Try.underlying86 Try.underlying3 (Try.zeroValue3 _) b2 _ (lookB r) rfl H0.out.m2 b rfl hib ?_; rw [HG.out]))
      go_ret
      exact ⟨rfl, HD.out, Kr.below (HZ.out _), fun r' he => by cases he⟩
    | some y =>
      by_cases hxb : x = b
      · subst hxb
        obtain ⟨h3, h4⟩ := pairR_yes h.one hf
        rw [hg] at h4
        simp only [Option.some.injEq] at h4
        subst h4
        rw [h3]
        have HF := Lib.hid hf
        have HG := Lib.hid hg
        clear h hf hg h3
        go_enter Try.func109, Try.ntmps109
        go_wp2_with (first
          | (at_lookup; refine wpList_lookup_imap _ rfl _ _ 86 rfl 3 3 Try.underlying3 Try.underlying86 Try.underlying3 (Try.zeroValue3 _) b1 _ (lookF r) rfl H0.out.m1 y rfl hia ?_; rw [HF.out])
          | (at_lookup; refine wpList_lookup_imap _ rfl _ _ 86 rfl 3 3 Try.underlying3 Try.underlying86 Try.underlying3 (Try.zeroValue3 _) b2 _ (lookB r) rfl H0.out.m2 x rfl hib ?_; rw [HG.out]))
        go_ret
        exact ⟨rfl, HD.out, Kr.below (HZ.out _), fun r' he => by simp only [Option.some.injEq] at he; subst he; exact H0.out⟩
      · have HP := Lib.hid (pairR_no h.one (a := a) (b := b) (by simp [hf]) (by simp [hf, hxb]))
        rw [HP.out]
        have HF := Lib.hid hf
        have HG := Lib.hid hg
        have hxb' : (x == b) = false := by simpa using hxb
        clear h hf hg hxb
        go_enter Try.func109, Try.ntmps109
        go_wp2_with (first
          | (at_lookup; refine wpList_lookup_imap _ rfl _ _ 86 rfl 3 3 Try.underlying3 Try.underlying86 Try.underlying3 (Try.zeroValue3 _) b1 _ (lookF r) rfl H0.out.m1 a rfl hia ?_; rw [HF.out])
          | (at_lookup; refine wpList_lookup_imap _ rfl _ _ 86 rfl 3 3 Try.underlying3 Try.underlying86 Try.underlying3 (Try.zeroValue3 _) b2 _ (lookB r) rfl H0.out.m2 b rfl hib ?_; rw [HG.out]))
        go_ret
        exact ⟨rfl, HD.out, Kr.below (HZ.out _), fun r' he => by cases he⟩
end Go.Proofs.Ytmffobadnmkpbaa
namespace Go.Proofs.Ytmffobadnmkpbaa
open Go.RowKit Go.Maps

theorem pairR_len {r r' : List (Int × Int)} {a b : Int} (h : pairR r a b = some r') : r'.length ≤ r.length + 1 := by
  unfold pairR at h
  split at h
  · simp only [Option.some.injEq] at h; subst h; simp
  · split at h
    · simp only [Option.some.injEq] at h; subst h; omega
    · cases h
theorem pairsR_len (l : List (Int × Int)) : ∀ {r r' : List (Int × Int)}, pairsR r l = some r' → r'.length ≤ r.length + l.length := by
  induction l with
  | nil => intro r r' h; simp only [pairsR, Option.some.injEq] at h; subst h; simp
  | cons p l ih =>
    intro r r' h
    simp only [pairsR] at h
    cases hp : pairR r p.1 p.2 with
    | none => rw [hp] at h; cases h
    | some r1 =>
      rw [hp] at h
      have := pairR_len hp
      have := ih h
      simp only [List.length_cons]; omega
theorem alikeT_len {r r' : List (Int × Int)} {t u : Tm} (h : alikeT r t u = some r') : r'.length ≤ r.length + t.size := by
  unfold alikeT at h
  split at h
  · have h1 := pairsR_len _ h
    have h2 := t.vs_len
    have h3 : (t.vs.zip u.vs).length ≤ t.vs.length := by rw [List.length_zip]; omega
    omega
  · cases h
/-- what is asked of renaming.alike at a term -/
def AlikeC (B b1 b2 : Nat) (t : Tm) : Prop := ∀ (r : List (Int × Int)) (u : Tm) (va vb : Value) (w : World), RenAt w b1 b2 r → TmAt (fun b => b < B) w t va → TmAt (fun b => b < B) w u vb → t.ok → u.ok → r.length + t.size ≤ 1000000 →
  Calls Try.prog 75 #[.agg #[.map (some b1), .map (some b2)], tmV t va, tmV u vb] w (RetPair (alikeT r t u) B b1 b2 w)
theorem TsAt.inB {B : Nat} {w w' : World} {v : Value} {l : List Tm} (h : TsAt (fun b => b < B) w v l) (hb : Below B w w') : TsAt (fun b => b < B) w' v l := h.mono fun b _ hp => ⟨hp, hb.block b hp⟩
theorem TmAt.inB {B : Nat} {w w' : World} {t : Tm} {a : Value} (h : TmAt (fun b => b < B) w t a) (hb : Below B w w') : TmAt (fun b => b < B) w' t a := h.mono fun b _ hp => ⟨hp, hb.block b hp⟩
set_option maxRecDepth 100000 in
set_option maxHeartbeats 3200000 in
theorem eqFunc_c (B b1 b2 : Nat) (hB1 : B ≤ b1) (_hB2 : B ≤ b2) (r : List (Int × Int)) (va vb : Value) (la lb : List Tm) (w : World) (hr : RenAt w b1 b2 r) (ha : TsAt (fun b => b < B) w va la) (hb : TsAt (fun b => b < B) w vb lb) (hoa : ∀ t ∈ la, t.ok) (hob : ∀ t ∈ lb, t.ok) (hlen : la.length = lb.length) (hn : r.length + Tm.sizes la ≤ 1000000) (hC : ∀ t ∈ la, AlikeC B b1 b2 t) :
    Calls Try.prog 110 #[va, vb, .func (.func 75) #[.agg #[.map (some b1), .map (some b2)]] #[]] w (RetPair (alikeL r la lb) B b1 b2 w) := by
  obtain ⟨ao, ca, rfl, _, _⟩ := ha.shape
  obtain ⟨bo, cb, rfl, _, _⟩ := hb.shape
  have hla : la.length ≤ 1000000 := by have := Tm.sizes_len la; omega
  have HB : Hid (B ≤ w.heap.size) := by show _ ≤ _; have := hr.m1.lt; omega
  have HR := Lib.hid hr
  have HA := Lib.hid ha
  have HBt := Lib.hid hb
  have HC := Lib.hid hC
  have HOA := Lib.hid hoa
  have HOB := Lib.hid hob
  have HL := Lib.hid hlen
  have hlb : lb.length ≤ 1000000 := by omega
  have hne : ((la.length : Int) != lb.length) = false := by rw [hlen]; simp
  have HN := Lib.hid hn
  clear hr ha hb hC hoa hob hn hlen
  go_enter Try.func110, Try.ntmps110
  go_wp2
  go_loopg [17] la.length (fun n i wr => ∃ (k : Nat) (rk : List (Int × Int)), k ≤ la.length ∧ i = .int .i64 k ∧ Hid (n = la.length - k) ∧ Hid (alikeL r la lb = alikeL rk (la.drop k) (lb.drop k)) ∧ Hid (RenAt wr b1 b2 rk) ∧ Hid (Below B w wr) ∧ Hid (Kr b1 b2 w wr) ∧ Hid (rk.length + Tm.sizes (la.drop k) ≤ 1000000))
  case atStart => exact ⟨0, r, by omega, rfl, rfl, rfl, HR, Below.refl _ _, Kr.below (Below.refl _ _), HN⟩
  case round =>
    obtain ⟨k, rk, hk, rfl, HN2, HE, HRk, HW, HK, HS⟩ := hrel
    by_cases hlt : k < la.length
    · have hlt2 : k < lb.length := by have := HL.out; omega
      have hi2 : (k : Int) < lb.length := by omega
      obtain ⟨x1, o1, a1, rfl, -, hcc1, hta⟩ := (HA.out.inB HW.out).get k hlt
      obtain ⟨x2, o2, a2, rfl, -, hcc2, htb⟩ := (HBt.out.inB HW.out).get k hlt2
      obtain ⟨p1, q1, rfl, _⟩ := hta.shape
      obtain ⟨p2, q2, rfl, _⟩ := htb.shape
      have hb1 := hcc1.lt
      have hb2 := hcc2.lt
      have CX := Lib.hid (HC.out la[k] (List.getElem_mem hlt))
      have hot := HOA.out la[k] (List.getElem_mem hlt)
      have hou := HOB.out lb[k] (List.getElem_mem hlt2)
      have HD : Hid (alikeL rk (la.drop k) (lb.drop k) = (alikeT rk la[k] lb[k]).bind fun r' => alikeL r' (la.drop (k + 1)) (lb.drop (k + 1))) := by show _ = _; rw [List.drop_eq_getElem_cons hlt, List.drop_eq_getElem_cons hlt2, alikeL_cons]
      have hsz : Tm.sizes (la.drop k) = la[k].size + Tm.sizes (la.drop (k + 1)) := by rw [List.drop_eq_getElem_cons hlt, Tm.sizes]
      have hs2 : rk.length + la[k].size ≤ 1000000 := by have := HS.out; omega
      have HSZ : Hid (∀ r', alikeT rk la[k] lb[k] = some r' → r'.length + Tm.sizes (la.drop (k + 1)) ≤ 1000000) := fun r' h => by have := alikeT_len h; have := HS.out; omega
      generalize la[k] = t at *
      generalize lb[k] = u at *
      have HBw : Hid (B ≤ wr.heap.size) := by show _ ≤ _; have := HB.out; have := HW.out.size; omega
      have CC : Hid (∀ W, Below wr.heap.size wr W → Calls Try.prog 75 #[.agg #[.map (some b1), .map (some b2)], .agg #[.int .i64 t.kind, .int .i64 t.num, .string t.name, .slice p1 t.args.length q1], .agg #[.int .i64 u.kind, .int .i64 u.num, .string u.name, .slice p2 u.args.length q2]] W (RetPair (alikeT rk t u) B b1 b2 W)) := fun W h => CX.out rk u _ _ W (HRk.out.below h) (hta.inB (h.mono HBw.out)) (htb.inB (h.mono HBw.out)) hot hou hs2
      have B2 := Lib.hid (below_two wr)
      obtain ⟨x0, x1', x2', x3⟩ := hcc1
      obtain ⟨y0, y1, y2, y3⟩ := hcc2
      clear hta htb CX hot hou hsz hs2
      cases hal : alikeT rk t u with
      | none =>
        have HAL := Lib.hid hal
        rw [hal] at CC
        have HF : Hid (alikeL r la lb = none) := by show _ = _; rw [HE.out, HD.out, hal]; rfl
        rw [HF.out]
        clear hal
        go_wp2_with (first | (go_at_call 75; ((with_reducible refine (CC.out _ (B2.out _ _)).mono ?_); rintro e W2 ⟨rfl, bb, kr, -⟩; have BB := Lib.hid bb; have KB := Lib.hid kr; clear bb kr)))
        go_ret
        exact ⟨rfl, HW.out.trans (((B2.out _ _).mono HBw.out).trans BB.out), HK.out.trans ((Kr.below (B2.out _ _)).trans KB.out), fun r' he => by cases he⟩
      | some r2 =>
        have HAL := Lib.hid hal
        rw [hal] at CC
        have HF : Hid (alikeL r la lb = alikeL r2 (la.drop (k + 1)) (lb.drop (k + 1))) := by show _ = _; rw [HE.out, HD.out, hal]; rfl
        clear hal
        go_wp2_with (first | (go_at_call 75; ((with_reducible refine (CC.out _ (B2.out _ _)).mono ?_); rintro e W2 ⟨rfl, bb, kr, rn⟩; have BB := Lib.hid bb; have KB := Lib.hid kr; have RN := Lib.hid (rn r2 rfl); clear bb kr rn)))
        go_roundg (la.length - (k + 1))
        case measure => have := HN2.out; omega
        case rel => exact ⟨k + 1, r2, by omega, by go_num, rfl, HF, RN, HW.out.trans (((B2.out _ _).mono HBw.out).trans BB.out), HK.out.trans ((Kr.below (B2.out _ _)).trans KB.out), HSZ.out r2 HAL.out⟩
    · obtain rfl : k = la.length := by omega
      have HF : Hid (alikeL r la lb = some rk) := by show _ = _; rw [HE.out, List.drop_length, HL.out, List.drop_length, alikeL_nil]
      go_wp2
      go_ret
      have h9 : RetPair (alikeL r la lb) B b1 b2 w (.returned (.bool true)) wr := by
        rw [HF.out]; exact ⟨rfl, HW.out, HK.out, fun r' he => by simp only [Option.some.injEq] at he; subst he; exact HRk.out⟩
      exact h9
end Go.Proofs.Ytmffobadnmkpbaa
namespace Go.Proofs.Ytmffobadnmkpbaa
open Go.RowKit Go.Maps

theorem kk4v {W : World} {b : Nat} {x0 x1 x2 x3 : Value} (h : BoxL W b [x0, x1, x2, x3]) : W.cell? ⟨b, 0, none⟩ = some x0 ∧ W.cell? ⟨b, 1, none⟩ = some x1 ∧ W.cell? ⟨b, 2, none⟩ = some x2 ∧ W.cell? ⟨b, 3, none⟩ = some x3 := ⟨(h.get 0 rfl).1, (h.get 1 rfl).1, (h.get 2 rfl).1, (h.get 3 rfl).1⟩
theorem alikeT_no {r : List (Int × Int)} {t u : Tm} (h : skT t u = false) : alikeT r t u = none := by simp [alikeT, h]
set_option maxRecDepth 100000 in
set_option maxHeartbeats 6400000 in
theorem alike_step (B b1 b2 : Nat) (hB1 : B ≤ b1) (hB2 : B ≤ b2) (t : Tm) (r : List (Int × Int)) (u : Tm) (va vb : Value) (w : World) (hr : RenAt w b1 b2 r) (ha : TmAt (fun b => b < B) w t va) (hb : TmAt (fun b => b < B) w u vb) (hoa : t.ok) (hob : u.ok) (hn : r.length + t.size ≤ 1000000) (hC : ∀ x ∈ t.args, AlikeC B b1 b2 x) :
    Calls Try.prog 75 #[.agg #[.map (some b1), .map (some b2)], tmV t va, tmV u vb] w (RetPair (alikeT r t u) B b1 b2 w) := by
  have h4a := fun h => ha.nil_of h
  have h4b := fun h => hb.nil_of h
  obtain ⟨p1, q1, rfl, _, _⟩ := ha.shape
  obtain ⟨p2, q2, rfl, _, _⟩ := hb.shape
  have hla : t.args.length ≤ 1000000 := by have h1 := Tm.sizes_len t.args; have h2 := t.size_eq; omega
  have hlt1 := hr.m1.lt
  have hlt2 := hr.m2.lt
  have al : ∀ (W : World) (o : Obj) (B : Nat), B ≤ W.heap.size → Below B W (W.alloc o) := fun W o B h => (Below.refl B W).alloc h o
  obtain ⟨V, hV⟩ : ∃ V, V = ((w.alloc (.cells #[.map (some b1), .map (some b2)] 88)).alloc (.cells #[.int .i64 t.kind, .int .i64 t.num, .string t.name, .slice p1 t.args.length q1] 24)).alloc (.cells #[.int .i64 u.kind, .int .i64 u.num, .string u.name, .slice p2 u.args.length q2] 24) := ⟨_, rfl⟩
  have hbV : Below w.heap.size w V := by rw [hV]; exact ((al _ _ _ (Nat.le_refl _)).trans (al _ _ _ (by simp))).trans (al _ _ _ (by simp; omega))
  have BV := Lib.hid hbV
  have hB : B ≤ w.heap.size := by omega
  have HBL := Lib.hid hB
  have RV := Lib.hid (hr.below hbV)
  have X3 : Hid (BoxL V w.heap.size [.map (some b1), .map (some b2)]) := by rw [hV]; exact ((BoxL.mk' w #[.map (some b1), .map (some b2)] 88).below (al _ _ (w.heap.size + 1) (by simp)) (by omega)).below (al _ _ (w.heap.size + 1) (by simp)) (by omega)
  have X4 : Hid (BoxL V (w.heap.size + 1) [.int .i64 t.kind, .int .i64 t.num, .string t.name, .slice p1 t.args.length q1]) := by
    rw [hV]
    have h := BoxL.mk' (w.alloc (.cells #[.map (some b1), .map (some b2)] 88)) #[.int .i64 t.kind, .int .i64 t.num, .string t.name, .slice p1 t.args.length q1] 24
    simp only [World.size_alloc] at h
    exact h.below (al _ _ (w.heap.size + 2) (by simp)) (by omega)
  have X5 : Hid (BoxL V (w.heap.size + 1 + 1) [.int .i64 u.kind, .int .i64 u.num, .string u.name, .slice p2 u.args.length q2]) := by
    rw [hV]
    have h := BoxL.mk' ((w.alloc (.cells #[.map (some b1), .map (some b2)] 88)).alloc (.cells #[.int .i64 t.kind, .int .i64 t.num, .string t.name, .slice p1 t.args.length q1] 24)) #[.int .i64 u.kind, .int .i64 u.num, .string u.name, .slice p2 u.args.length q2] 24
    simp only [World.size_alloc] at h
    exact h
  -- what a world knows where all but the maps stays
  have KS : Hid (∀ W, Kr b1 b2 V W → (W.cell? ⟨w.heap.size, 0, none⟩ = some (.map (some b1)) ∧ W.cell? ⟨w.heap.size, 1, none⟩ = some (.map (some b2)) ∧ W.cell? ⟨w.heap.size + 1, 0, none⟩ = some (.int .i64 t.kind) ∧ W.cell? ⟨w.heap.size + 1, 1, none⟩ = some (.int .i64 t.num) ∧ W.cell? ⟨w.heap.size + 1, 2, none⟩ = some (.string t.name) ∧ W.cell? ⟨w.heap.size + 1, 3, none⟩ = some (.slice p1 t.args.length q1) ∧ W.cell? ⟨w.heap.size + 1 + 1, 0, none⟩ = some (.int .i64 u.kind) ∧ W.cell? ⟨w.heap.size + 1 + 1, 1, none⟩ = some (.int .i64 u.num) ∧ W.cell? ⟨w.heap.size + 1 + 1, 2, none⟩ = some (.string u.name) ∧ W.cell? ⟨w.heap.size + 1 + 1, 3, none⟩ = some (.slice p2 u.args.length q2))) := fun W h => by
    have k3 := X3.out.block (h.2 _ (X3.out.lt (by simp)) (by omega) (by omega))
    have k4 := kk4v (X4.out.block (h.2 _ (X4.out.lt (by simp)) (by omega) (by omega)))
    have k5 := kk4v (X5.out.block (h.2 _ (X5.out.lt (by simp)) (by omega) (by omega)))
    exact ⟨(k3.get 0 rfl).1, (k3.get 1 rfl).1, k4.1, k4.2.1, k4.2.2.1, k4.2.2.2, k5.1, k5.2.1, k5.2.2.1, k5.2.2.2⟩
  have CA : Hid (∀ W, Calls Try.prog 62 #[.agg #[.int .i64 t.kind, .int .i64 t.num, .string t.name, .slice p1 t.args.length q1]] W fun e w' => e = .returned (.slice p1 t.args.length q1) ∧ Below W.heap.size W w') := fun W => args_c t _ _ _ h4a W
  have CB : Hid (∀ W, Calls Try.prog 62 #[.agg #[.int .i64 u.kind, .int .i64 u.num, .string u.name, .slice p2 u.args.length q2]] W fun e w' => e = .returned (.slice p2 u.args.length q2) ∧ Below W.heap.size W w') := fun W => args_c u _ _ _ h4b W
  have HSK := Lib.hid (skT_eq t u)
  -- the end where nothing was turned
  have NO : Hid (∀ W, Below V.heap.size V W → alikeT r t u = none → RetPair (alikeT r t u) B b1 b2 w (.returned (.bool false)) W) := fun W h hx => by
    rw [hx]; exact ⟨rfl, (BV.out.trans (h.mono BV.out.size)).mono HBL.out, Kr.below (BV.out.trans (h.mono BV.out.size)), fun r' he => by cases he⟩
  have k0 := KS.out V (Kr.below (Below.refl _ _))
  obtain ⟨z0, z1, y0, y1, y2, y3, x0, x1, x2, x3⟩ := k0
  by_cases hk : t.kind = u.kind
  case neg =>
    have hkb : (t.kind != u.kind) = true := by simpa using hk
    have HX : Hid (alikeT r t u = none) := alikeT_no (by rw [HSK.out]; simp [hk])
    unfold tmV
    clear hr ha hb hC hoa hob hn h4a h4b hk
    go_enter Try.func75, Try.ntmps75
    go_upto_region 1 with (fail)
    rw [← hV]
    clear hV
    go_quiet (fail)
    go_wp2
    go_ret
    exact NO.out _ (below_drewT (Below.refl _ _) _) HX.out
  case pos =>
    have hkb : (t.kind != u.kind) = false := by simp [hk]
    have HK := Lib.hid hk
    have HR := Lib.hid hr
    have HA := Lib.hid ha
    have HB := Lib.hid hb
    have HOA := Lib.hid hoa
    have HOB := Lib.hid hob
    have HN := Lib.hid hn
    have HC := Lib.hid hC
    have HL1 := Lib.hid hlt1
    have hlb : u.args.length ≤ 9223372036854775807 := by have h := hb.shape; obtain ⟨_, _, h, h1, h2⟩ := h; simp only [Value.slice.injEq] at h; obtain ⟨_, _, rfl⟩ := h; unfold maxLen at h2; omega
    unfold tmV
    clear hr ha hb hC hoa hob hn h4a h4b hk
    go_enter Try.func75, Try.ntmps75
    go_upto_region 1 with (fail)
    rw [← hV]
    clear hV
    go_region_held3 (fun W => W.cell? ⟨w.heap.size, 0, none⟩ = some (.map (some b1)) ∧ W.cell? ⟨w.heap.size, 1, none⟩ = some (.map (some b2)) ∧ W.cell? ⟨w.heap.size + 1, 0, none⟩ = some (.int .i64 t.kind) ∧ W.cell? ⟨w.heap.size + 1, 1, none⟩ = some (.int .i64 t.num) ∧ W.cell? ⟨w.heap.size + 1, 2, none⟩ = some (.string t.name) ∧ W.cell? ⟨w.heap.size + 1, 3, none⟩ = some (.slice p1 t.args.length q1) ∧ W.cell? ⟨w.heap.size + 1 + 1, 0, none⟩ = some (.int .i64 u.kind) ∧ W.cell? ⟨w.heap.size + 1 + 1, 1, none⟩ = some (.int .i64 u.num) ∧ W.cell? ⟨w.heap.size + 1 + 1, 2, none⟩ = some (.string u.name) ∧ W.cell? ⟨w.heap.size + 1 + 1, 3, none⟩ = some (.slice p2 u.args.length q2))
      ((first | exact KS.out _ (Kr.below P2.out) | exact KS.out _ (Kr.below P1.out) | (refine KS.out _ (Kr.below ?_); go_grown)))
      (first
        | (go_at_call 62; ((with_reducible refine (CA.out _).mono ?_); rintro e W1 ⟨rfl, bb⟩; have P1 : Hid (Below V.heap.size V W1) := Below.trans (B := V.heap.size) (by go_grown) (bb.mono (by go_size)); clear bb))
        | (go_at_call 62; ((with_reducible refine (CB.out _).mono ?_); rintro e W2 ⟨rfl, bb⟩; have P2 : Hid (Below V.heap.size V W2) := Below.trans (B := V.heap.size) P1.out (bb.mono P1.out.size); clear bb)))
    clear z0 z1 y0 y1 y2 y3 x0 x1 x2 x3
    obtain ⟨z0, z1, y0, y1, y2, y3, x0, x1, x2, x3⟩ := KS.out _ (Kr.below P2.out)
    by_cases hl : t.args.length = u.args.length
    case neg =>
      have hlb : ((t.args.length : Int) != u.args.length) = true := by simp; omega
      have HX : Hid (alikeT r t u = none) := alikeT_no (by rw [HSK.out]; simp [hl])
      clear hl
      go_wp2
      go_ret
      exact NO.out _ P2.out HX.out
    case pos =>
      have hlb : ((t.args.length : Int) != u.args.length) = false := by simp [hl]
      have HL := Lib.hid hl
      have R2 := Lib.hid (RV.out.below P2.out)
      have W2B := Lib.hid (BV.out.trans (P2.out.mono BV.out.size))
      clear hl
      by_cases h1 : t.kind = 1
      · obtain ⟨n, htn, hn5⟩ := Tm.ok_var HOA.out h1
        obtain ⟨m, hum, hm5⟩ := Tm.ok_var HOB.out (HK.out.symm.trans h1)
        have hkk : (t.kind == 1) = true := by simp [h1]
        have hn1 : t.num = (n : Int) := by rw [htn]; rfl
        have hm1 : u.num = (m : Int) := by rw [hum]; rfl
        have HX : Hid (alikeT r t u = pairR r n m) := by
          show _ = _
          rw [htn, hum]
          simp only [alikeT, skT, if_true, Tm.vs, List.zip_cons_cons, List.zip_nil_right, pairsR]
          cases pairR r n m <;> rfl
        have CP := Lib.hid (pair_c B b1 b2 r n m W2 R2.out hB1 hB2 (by have := HN.out; omega) (by omega) (by omega))
        have HXR : Hid (∀ e w', RetPair (pairR r n m) B b1 b2 W2 e w' → RetPair (alikeT r t u) B b1 b2 w e w') := fun e w' ⟨g1, g2, g3, g4⟩ => by
          rw [HX.out]; exact ⟨g1, (W2B.out.mono HBL.out).trans g2, (Kr.below W2B.out).trans g3, g4⟩
        have y1' := y1
        have x1' := x1
        rw [hn1] at y1'
        rw [hm1] at x1'
        clear h1 htn hum y1 x1 NO HX
        generalize pairR r n m = x at *
        go_wp2_with (first | (go_at_call 109; ((with_reducible refine CP.out.mono ?_); rintro e W3 hret; have HW3 := Lib.hid (HXR.out _ _ hret); obtain ⟨rfl, -⟩ := hret)))
        go_ret
        exact HW3.out
      · have hk1 : (t.kind == 1) = false := by simpa using h1
        by_cases h2 : t.kind = 2
        · have hkk : (t.kind == 2) = true := by simp [h2]
          have HX : Hid (alikeT r t u = if (t.num == u.num) = true then some r else none) := by
            show _ = _
            unfold alikeT
            rw [HSK.out]
            have e1 : t.vs = [] := by cases t <;> simp [Tm.kind] at h2; rfl
            simp [HK.out ▸ h2, HK.out, HL.out, e1, pairsR]
          have HXT : Hid ((t.num == u.num) = true → RetPair (alikeT r t u) B b1 b2 w (.returned (.bool true)) W2) := fun h => by
            rw [HX.out, if_pos h]; exact ⟨rfl, W2B.out.mono HBL.out, Kr.below W2B.out, fun r' he => by simp only [Option.some.injEq] at he; subst he; exact R2.out⟩
          have HXF : Hid ((t.num == u.num) = false → RetPair (alikeT r t u) B b1 b2 w (.returned (.bool false)) W2) := fun h => NO.out _ P2.out (by rw [HX.out]; simp [h])
          clear h1 h2 NO HX
          cases he : (t.num == u.num) with
          | true =>
            have H9 := Lib.hid (HXT.out he)
            clear HXT HXF
            go_wp2
            go_ret
            exact H9.out
          | false =>
            have H9 := Lib.hid (HXF.out he)
            clear HXT HXF
            go_wp2
            go_ret
            exact H9.out
        · have hk2 : (t.kind == 2) = false := by simpa using h2
          cases hnm : (t.name.toList == u.name.toList) with
          | false =>
            have HX : Hid (alikeT r t u = none) := alikeT_no (by rw [HSK.out]; simp [h1, h2, hnm])
            clear h1 h2
            go_upto_region 8 with (fail)
            go_quiet (fail)
            go_wp2
            go_ret
            exact NO.out _ (below_drewT P2.out _) HX.out
          | true =>
            have e1 : t.vs = Tm.vss t.args := Tm.vs_args h1
            have e2 : u.vs = Tm.vss u.args := Tm.vs_args (fun h => h1 (HK.out.trans h))
            have HX : Hid (alikeT r t u = alikeL r t.args u.args) := by
              show _ = _
              unfold alikeT alikeL
              rw [HSK.out, e1, e2]
              simp only [HK.out, HL.out, hnm, Bool.true_and, decide_true]
              rw [if_neg (fun h => h1 (HK.out.trans h)), if_neg (fun h => h2 (HK.out.trans h))]
            have CE : Hid (∀ W, Below V.heap.size V W → Calls Try.prog 110 #[.slice p1 t.args.length q1, .slice p2 u.args.length q2, .func (.func 75) #[.agg #[.map (some b1), .map (some b2)]] #[]] W (RetPair (alikeL r t.args u.args) B b1 b2 W)) := fun W h => by
              have hw := BV.out.trans (h.mono BV.out.size)
              exact eqFunc_c B b1 b2 hB1 hB2 r _ _ t.args u.args W (RV.out.below h) ((TsAt.of_tm HA.out).inB (hw.mono HBL.out)) ((TsAt.of_tm HB.out).inB (hw.mono HBL.out)) (Tm.ok_args HOA.out) (Tm.ok_args HOB.out) HL.out (by have := HN.out; have := t.size_eq; omega) HC.out
            have HXR : Hid (∀ W e w', Below V.heap.size V W → RetPair (alikeL r t.args u.args) B b1 b2 W e w' → RetPair (alikeT r t u) B b1 b2 w e w' ∧ Kr b1 b2 V w') := fun W e w' h ⟨g1, g2, g3, g4⟩ => by
              have hw := BV.out.trans (h.mono BV.out.size)
              rw [HX.out]; exact ⟨⟨g1, (hw.mono HBL.out).trans g2, (Kr.below hw).trans g3, g4⟩, (Kr.below h).trans g3⟩
            clear h1 h2 NO HX e1 e2 HSK
            generalize alikeL r t.args u.args = x at *
            have P2' := P2
            go_upto_region 8 with (fail)
            go_region_held3 (fun W => W.cell? ⟨w.heap.size, 0, none⟩ = some (.map (some b1)) ∧ W.cell? ⟨w.heap.size, 1, none⟩ = some (.map (some b2)) ∧ W.cell? ⟨w.heap.size + 1, 0, none⟩ = some (.int .i64 t.kind) ∧ W.cell? ⟨w.heap.size + 1, 1, none⟩ = some (.int .i64 t.num) ∧ W.cell? ⟨w.heap.size + 1, 2, none⟩ = some (.string t.name) ∧ W.cell? ⟨w.heap.size + 1, 3, none⟩ = some (.slice p1 t.args.length q1) ∧ W.cell? ⟨w.heap.size + 1 + 1, 0, none⟩ = some (.int .i64 u.kind) ∧ W.cell? ⟨w.heap.size + 1 + 1, 1, none⟩ = some (.int .i64 u.num) ∧ W.cell? ⟨w.heap.size + 1 + 1, 2, none⟩ = some (.string u.name) ∧ W.cell? ⟨w.heap.size + 1 + 1, 3, none⟩ = some (.slice p2 u.args.length q2))
              ((first | exact KS.out _ HW5.out.2 | exact KS.out _ (Kr.below P4.out) | exact KS.out _ (Kr.below P3.out) | exact ⟨z0, z1, y0, y1, y2, y3, x0, x1, x2, x3⟩))
              (first
                | (go_at_call 62; ((with_reducible refine (CA.out _).mono ?_); rintro e W3 ⟨rfl, bb⟩; have P3 : Hid (Below V.heap.size V W3) := (Below.drew P2'.out).trans (Below.mono bb P2'.out.size); clear bb))
                | (go_at_call 62; ((with_reducible refine (CB.out _).mono ?_); rintro e W4 ⟨rfl, bb⟩; have P4 : Hid (Below V.heap.size V W4) := P3.out.trans (bb.mono P3.out.size); clear bb))
                | (go_at_call 110; ((with_reducible refine (CE.out _ P4.out).mono ?_); rintro e W5 hret; have HW5 := Lib.hid (HXR.out _ _ _ P4.out hret); obtain ⟨rfl, -⟩ := hret)))
            all_goals
              go_wp2
              go_ret
              exact HW5.out.1
theorem alike_all (B b1 b2 : Nat) (hB1 : B ≤ b1) (hB2 : B ≤ b2) (t : Tm) : AlikeC B b1 b2 t := by
  induction t using Tm.ind with
  | h4 s l ih => exact fun r u va vb w hr ha hb hoa hob hn => alike_step B b1 b2 hB1 hB2 _ r u va vb w hr ha hb hoa hob hn ih
  | _ => exact fun r u va vb w hr ha hb hoa hob hn => alike_step B b1 b2 hB1 hB2 _ r u va vb w hr ha hb hoa hob hn (by simp [Tm.args])
end Go.Proofs.Ytmffobadnmkpbaa
namespace Go.Proofs.Ytmffobadnmkpbaa
open Go.RowKit Go.Maps

set_option maxRecDepth 100000 in
set_option maxHeartbeats 3200000 in
theorem variant_c (t u : Tm) (va vb : Value) (w : World) (ha : TmAt (fun _ => True) w t va) (hb : TmAt (fun _ => True) w u vb) (hoa : t.ok) (hob : u.ok) (hn : t.size ≤ 1000000) :
    Calls Try.prog 29 #[tmV t va, tmV u vb] w fun e w' => e = .returned (.bool (variantB t u)) ∧ Below w.heap.size w w' := by
  obtain ⟨p1, q1, rfl, _, _⟩ := ha.shape
  obtain ⟨p2, q2, rfl, _, _⟩ := hb.shape
  have hmm := @run_makeMap Try.prog
  have al : ∀ (W : World) (o : Obj) (B : Nat), B ≤ W.heap.size → Below B W (W.alloc o) := fun W o B h => (Below.refl B W).alloc h o
  have HV : Hid (∀ V, V = ((((w.alloc (.cells #[.int .i64 t.kind, .int .i64 t.num, .string t.name, .slice p1 t.args.length q1] 24)).alloc (.cells #[.int .i64 u.kind, .int .i64 u.num, .string u.name, .slice p2 u.args.length q2] 24)).alloc (.map #[] 0)).alloc (.map #[] 0)) →
      Calls Try.prog 75 #[.agg #[.map (some (w.heap.size + 1 + 1)), .map (some (w.heap.size + 1 + 1 + 1))], .agg #[.int .i64 t.kind, .int .i64 t.num, .string t.name, .slice p1 t.args.length q1], .agg #[.int .i64 u.kind, .int .i64 u.num, .string u.name, .slice p2 u.args.length q2]] V fun e w' => e = .returned (.bool (variantB t u)) ∧ Below w.heap.size w w') := fun V hV => by
    have hbV : Below w.heap.size w V := by rw [hV]; exact (((al _ _ _ (Nat.le_refl _)).trans (al _ _ _ (by simp))).trans (al _ _ _ (by simp; omega))).trans (al _ _ _ (by simp; omega))
    have hR : RenAt V (w.heap.size + 1 + 1) (w.heap.size + 1 + 1 + 1) [] := by
      have h1 := IMapAt.made (P := Try.prog) (K := 3) (E := 3) ((w.alloc (.cells #[.int .i64 t.kind, .int .i64 t.num, .string t.name, .slice p1 t.args.length q1] 24)).alloc (.cells #[.int .i64 u.kind, .int .i64 u.num, .string u.name, .slice p2 u.args.length q2] 24))
      have h2 := IMapAt.made (P := Try.prog) (K := 3) (E := 3) (((w.alloc (.cells #[.int .i64 t.kind, .int .i64 t.num, .string t.name, .slice p1 t.args.length q1] 24)).alloc (.cells #[.int .i64 u.kind, .int .i64 u.num, .string u.name, .slice p2 u.args.length q2] 24)).alloc (.map #[] 0))
      simp only [World.size_alloc] at h1 h2
      rw [hV]
      exact ⟨(h1.block ((al _ _ (w.heap.size + 3) (by simp)).block _ (by omega))).congr (fun _ => rfl), h2.congr (fun _ => rfl), by omega, ⟨List.nodup_nil, List.nodup_nil⟩⟩
    exact (alike_all w.heap.size _ _ (by omega) (by omega) t [] u _ _ V hR (ha.mono fun b h _ => ⟨h, hbV.block b h⟩) (hb.mono fun b h _ => ⟨h, hbV.block b h⟩) hoa hob (by simpa using hn)).mono fun e w' ⟨g1, g2, _, _⟩ => ⟨g1, hbV.trans g2⟩
  unfold tmV
  clear ha hb hoa hob hn al
  go_enter Try.func29, Try.ntmps29
  go_wp2_with (first | (go_at_call 75; ((with_reducible refine (HV.out _ rfl).mono ?_); rintro e W3 ⟨rfl, bb⟩; have B3 := Lib.hid bb; clear bb)))
  go_ret
  exact ⟨rfl, B3.out⟩
end Go.Proofs.Ytmffobadnmkpbaa
