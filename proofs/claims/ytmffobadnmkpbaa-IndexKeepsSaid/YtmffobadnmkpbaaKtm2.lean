/-
  A LIST OF TERMS OF THE CALL'S OWN THAT GROWS: by one term, by a list of terms; one term stored into it. Over any program.
  term.Vars: its closure, one step of its recursion, walked.
  term.Vars, walked.
  cmp.Or of two numbers, walked.
  slices.CompareFunc over two lists of terms, walked over the contract of the order of the first one's terms.
  coneyref07.Vars, walked.
-/
import Derived.Test.YtmffobadnmkpbaaKpars1
import Derived.Maps.AppendAt
import Derived.Test.YtmffobadnmkpbaaKtm1
import Derived.Laws.EntriesVeiled
import Derived.Deep.LoopGhost
namespace Go.Proofs.Ytmffobadnmkpbaa
open Go.RowKit

/-- 'append(out, s...)', out the call's own, s whatever slice: telling where it lies -/
theorem wpList_append_slX {P : Program} {w0 : World} {ops : Array Oper} {rest : List Oper} {o : Oper} {a : Act} {Q : Exit → Act → World → Prop} (hgd : o.guard = none) (s x : Operand) (t : TypeId)
    (ho : o.op = .call { callee := .builtin .append, args := #[s, x], argTypes := #[t, t] })
    (base : Nat) (e : TypeId) (i : TypeInfo) (z : Value) (size bytes : Nat) (ht : P.underlying t = some (.slice e)) (hi : P.info? e = some i) (hz : i.zero = some z)
    (hsize : i.size = size) (hby : i.bytes = bytes) (hzs : z.cells.size = size) (hsz : 0 < size)
    (v : Value) (n : Nat) (xs : List Value) (hs : a.eval s = v) (hown : w0.ownsRow base e size v n xs)
    (vx : Value) (m : Nat) (ys : List Value) (hx : a.eval x = vx) (hsl : SlAt w0 size vx m ys) (h1 : ∀ u ∈ ys, u.oneCell' = true)
    (hbytes : (n + m) * bytes ≤ 140737488355328 ∧ n + m ≤ 140737488355328) (hbase : base ≤ w0.heap.size)
    (h : ∀ v' w', w'.ownsRow base e size v' (n + m) (xs ++ ys) → Below base w0 w' → KeepsBut w0 w' v → (v'.ownBlock = v.ownBlock ∨ v'.ownBlock = some w0.heap.size) → wpList P ops Q rest (a.put o.dst v') w') :
    wpList P ops Q (o :: rest) a w0 := by
  obtain ⟨hl, ao, cap, rfl, h2, h3, h5, h4⟩ := hsl
  cases ao with
  | none =>
    obtain rfl := h5 rfl
    obtain rfl : m = 0 := by omega
    obtain rfl : ys = [] := List.eq_nil_of_length_eq_zero (by omega)
    refine wpList_append_own_none hgd s x t ho base e i size ht hi v n xs hs hown hx ?_
    exact h v w0 (by simpa using hown) (Below.refl _ _) (fun _ _ _ => rfl) (.inl rfl)
  | some ad =>
    refine wpList_append_own_at w0 hgd s x t ho base e i z size bytes ht hi hz hsize hby hzs hsz v n xs hs hown ad m cap ys hx hl (fun j u hj => ?_) h1 (by unfold maxLen; omega) hbytes.1 hbase (fun v' w' r1 r2 _ r5 => h v' w' r1 ?_ (fun b hb hne => r2.block b hb (fun he => hne he.symm)) r5)
    · have hj' : j < m * size := by rw [← hl]; exact (List.getElem?_eq_some_iff.1 hj).1
      obtain ⟨b, off, he, _, hc⟩ := h4 (by omega)
      injection he with he; subst he
      rw [Go.WideShapes.add_plain, hc j hj', hj]
    · exact (Below.refl base w0).grown r2 hbase (ownBlock_ge hown)

/-- a list of terms in a row of the call's own; the terms' arguments lie elsewhere, in blocks that are such -/
structure OwnTs (p : Nat → Prop) (base : Nat) (w : World) (v : Value) (L : List (Tm × Value)) : Prop where
  own : w.ownsRow base 24 4 v L.length (tmCs L)
  tms : ∀ x ∈ L, TmAt (fun b => v.ownBlock ≠ some b ∧ p b) w x.1 x.2
theorem OwnTs.below {p : Nat → Prop} {base : Nat} {w w' : World} {v : Value} {L : List (Tm × Value)} (h : OwnTs p base w v L) (hb : Below w.heap.size w w') : OwnTs p base w' v L :=
  ⟨own_below h.own hb, fun x hx => (h.tms x hx).grow hb fun _ _ h => h⟩
theorem OwnTs.weaken {p p' : Nat → Prop} {base base' : Nat} {w : World} {v : Value} {L : List (Tm × Value)} (h : OwnTs p base w v L) (hb : base' ≤ base) (hp : ∀ b, p b → p' b) : OwnTs p' base' w v L := by
  refine ⟨⟨h.own.1, ?_⟩, fun x hx => (h.tms x hx).mono fun b _ hb' => ⟨⟨hb'.1, hp b hb'.2⟩, rfl⟩⟩
  rcases h.own.2 with hn | ⟨g, cap, cur, e, hg, rest⟩
  · exact .inl hn
  · exact .inr ⟨g, cap, cur, e, Nat.le_trans hb hg, rest⟩
theorem OwnTs.at {p : Nat → Prop} {base : Nat} {w : World} {v : Value} {L : List (Tm × Value)} (h : OwnTs p base w v L) : TsAt (fun _ => True) w v (L.map Prod.fst) :=
  TsAt.of_sl (SlAt.of_own h.own) (fun _ _ => trivial) (fun x hx => (h.tms x hx).any)
theorem OwnTs.shape {p : Nat → Prop} {base : Nat} {w : World} {v : Value} {L : List (Tm × Value)} (h : OwnTs p base w v L) : ∃ ao cap, v = .slice ao L.length cap ∧ L.length ≤ cap ∧ cap ≤ maxLen := (SlAt.of_own h.own).shape
/-- terms stay where a row that is none of theirs grows -/
theorem TmAt.keptBut {p : Nat → Prop} {w w' : World} {v v' : Value} {t : Tm} {a : Value} (h : TmAt (fun b => v.ownBlock ≠ some b ∧ p b) w t a) (hk : KeepsBut w w' v) (hp : ∀ g, v'.ownBlock = some g → v.ownBlock = some g ∨ w.heap.size ≤ g) : TmAt (fun b => v'.ownBlock ≠ some b ∧ p b) w' t a :=
  h.mono fun b hb hp' => ⟨⟨fun he => by rcases hp b he with e | e; (· exact hp'.1 e); (· omega), hp'.2⟩, hk b hb hp'.1⟩
theorem lies_or {w : World} {v v' : Value} (h : v'.ownBlock = v.ownBlock ∨ v'.ownBlock = some w.heap.size) : ∀ g, v'.ownBlock = some g → v.ownBlock = some g ∨ w.heap.size ≤ g := fun g hg => by
  rcases h with e | e
  · exact .inl (e ▸ hg)
  · rw [e] at hg; simp at hg; exact .inr (by omega)
theorem lies_at {w : World} {v : Value} {g n cap : Nat} (h : v.ownBlock = some g ∨ w.heap.size ≤ g) : ∀ k, (Value.slice (some ⟨g, 0, none⟩) n cap).ownBlock = some k → v.ownBlock = some k ∨ w.heap.size ≤ k := fun k hk => by
  have e : g = k := by simpa [Value.ownBlock] using hk
  subst e; exact h
theorem OwnTs.grow {p : Nat → Prop} {base : Nat} {w w' : World} {v v' : Value} {L X : List (Tm × Value)} (h : OwnTs p base w v L) (hX : ∀ x ∈ X, TmAt (fun b => v.ownBlock ≠ some b ∧ p b) w x.1 x.2)
    (ho : w'.ownsRow base 24 4 v' (L.length + X.length) (tmCs L ++ tmCs X)) (hk : KeepsBut w w' v) (hp : ∀ g, v'.ownBlock = some g → v.ownBlock = some g ∨ w.heap.size ≤ g) : OwnTs p base w' v' (L ++ X) := by
  refine ⟨by rw [tmCs_append]; simpa using ho, fun x hx => ?_⟩
  rcases List.mem_append.1 hx with hx | hx
  · exact (h.tms x hx).keptBut hk hp
  · exact (hX x hx).keptBut hk hp
/-- a term pushed by 'append' at one element laid just before -/
theorem OwnTs.push {p : Nat → Prop} {base : Nat} {w w' : World} {v : Value} {L : List (Tm × Value)} {t : Tm} {a : Value} {g cap : Nat} (h : OwnTs p base w v L) (ht : TmAt (fun b => v.ownBlock ≠ some b ∧ p b) w t a)
    (ho : w'.ownsRow base 24 4 (.slice (some ⟨g, 0, none⟩) (L.length + 1) cap) (L.length + 1) (tmCs L ++ (#[.int .i64 t.kind, .int .i64 t.num, .string t.name, a] : Array Value).toList)) (hk : KeepsBut w w' v) (hp : v.ownBlock = some g ∨ w.heap.size ≤ g) : OwnTs p base w' (.slice (some ⟨g, 0, none⟩) (L.length + 1) cap) (L ++ [(t, a)]) :=
  h.grow (X := [(t, a)]) (fun x hx => by simp only [List.mem_singleton] at hx; subst hx; exact ht) (by simpa [tmCs, tmC] using ho) hk (lies_at hp)
theorem OwnTs.made (p : Nat → Prop) (w : World) : OwnTs p w.heap.size (w.alloc (.cells #[] 24)) (.slice (some ⟨w.heap.size, 0, none⟩) 0 0) [] :=
  ⟨World.ownsRow_made (base := w.heap.size) (size := 4) (e := 24) w #[] 0 (by simp) (by decide) rfl, by simp⟩
theorem OwnTs.none (p : Nat → Prop) (base : Nat) (w : World) : OwnTs p base w (.slice Option.none 0 0) [] := ⟨⟨rfl, .inl ⟨rfl, rfl⟩⟩, by simp⟩
/-- what returns such a list of terms, in new memory -/
def RetOwnT (p : Nat → Prop) (G : List Tm) (w : World) (e : Ending) (w' : World) : Prop := ∃ ao cap Lv, e = .returned (.slice ao Lv.length cap) ∧ OwnTs (fun b => (p b ∧ b < w.heap.size) ∨ w.heap.size ≤ b) w.heap.size w' (.slice ao Lv.length cap) Lv ∧ Lv.map Prod.fst = G ∧ Below w.heap.size w w'
/-- a store into the row itself -/
theorem own_store {w : World} {base : Nat} {e : TypeId} {size g n cap : Nat} {xs : List Value} (h : w.ownsRow base e size (.slice (some ⟨g, 0, none⟩) n cap) n xs) (i : Nat) (_hi : i < n * size) (u : Value) :
    (w.setCell ⟨g, i, none⟩ u).ownsRow base e size (.slice (some ⟨g, 0, none⟩) n cap) n (xs.set i u) := by
  refine ⟨by rw [List.length_set]; exact h.1, .inr ?_⟩
  rcases h.2 with ⟨he, _⟩ | ⟨g', cap', cur, he, hg, hgg, h1, h2, h3, h4⟩
  · cases he
  · simp only [Value.slice.injEq, Option.some.injEq, Addr.mk.injEq, and_true] at he
    obtain ⟨rfl, _, rfl⟩ := he
    refine ⟨g, cap, cur.setIfInBounds i u, rfl, hg, ?_, h1, h2, by simpa using h3, ?_⟩
    · simp only [World.setCell]
      rw [Array.getElem?_modify, if_pos rfl, hgg]; rfl
    · rw [← h4, Array.toList_setIfInBounds, List.take_set]
end Go.Proofs.Ytmffobadnmkpbaa
namespace Go.Proofs.Ytmffobadnmkpbaa
open Go.RowKit

theorem Tm.vss_take_end (l : List Tm) : Tm.vss (l.take l.length) = Tm.vss l := by rw [List.take_length]
theorem Tm.vs_args {t : Tm} (h : t.kind ≠ 1) : t.vs = Tm.vss t.args := by
  cases t <;> simp [Tm.kind] at h <;> simp [Tm.vs, Tm.args, Tm.vss]
set_option maxRecDepth 100000 in
set_option maxHeartbeats 3200000 in
theorem walk_step (h : Nat) (w0 : World) (_hh : w0.heap.size = h) (t : Tm) (va : Value) (wq : World) (v : Value) (L : List Int) (hB : VB h w0 wq v L L) (ht : TmAt (fun b => b < h) w0 t va) (hok : t.ok) (hn : L.length + t.size ≤ 100000000) (hC : ∀ u ∈ t.args, WalkC h w0 u) :
    Calls Try.prog 63 #[tmV t va, .pointer (some ⟨h + 3, 0, none⟩), .pointer (some ⟨h + 1, 0, none⟩), .pointer (some ⟨h + 4, 0, none⟩)] wq fun e w' => e = .returned (.tuple #[]) ∧ ∃ v', VB h w0 w' v' (addVs L t.vs) (addVs L t.vs) := by
  have h4 := fun h => ht.nil_of h
  obtain ⟨ao, cc, rfl, hc1, hc2⟩ := ht.shape
  have HT := Lib.hid (TsAt.of_tm ht)
  have HC := Lib.hid hC
  have HB := Lib.hid hB
  have HN := Lib.hid hn
  have HOK := Lib.hid (Tm.ok_args hok)
  have hsz := hB.size
  obtain ⟨i0, hi, hz0, hz1, hz2⟩ := info_parts Try.infoInt
  have HA : Hid (∀ W, Calls Try.prog 62 #[.agg #[.int .i64 t.kind, .int .i64 t.num, .string t.name, .slice ao t.args.length cc]] W fun e w' => e = .returned (.slice ao t.args.length cc) ∧ Below W.heap.size W w') := fun W => args_c t _ _ _ h4 W
  by_cases hk : t.kind = 1
  · obtain ⟨n, rfl, hn5⟩ := Tm.ok_var hok hk
    have hnn : (0 : Int) ≤ n ∧ (n : Int) < 5000 := by omega
    have h0 := fun hk => h4 hk
    have he := h4 (by simp [Tm.kind])
    simp only [Value.slice.injEq, Tm.args, List.length_nil] at he
    obtain ⟨rfl, -, rfl⟩ := he
    have HBX := Lib.hid (BoxL.mk' wq #[.int .i64 1, .int .i64 n, .string ByteArray.empty, .slice none 0 0] 24)
    have HB1 := Lib.hid (HB.out.below (below_one wq (.cells #[.int .i64 1, .int .i64 n, .string ByteArray.empty, .slice none 0 0] 24)))
    have HA1 : Hid (∀ W, Calls Try.prog 62 #[.agg #[.int .i64 1, .int .i64 n, .string ByteArray.empty, .slice none 0 0]] W fun e w' => e = .returned (.slice none 0 0) ∧ Below W.heap.size W w') := HA.out
    clear h0 h4 ht hC hB hok hk hc1 hc2 HC HT HA
    by_cases hm : (n : Int) ∈ L
    · have HK : Hid (addVs L (Tm.vs (.var n)) = L) := by show _ = _; simp [Tm.vs, addVs_cons, addVs_nil, addV_mem hm]
      rw [HK.out]
      have hd : Hid (decide ((n : Int) ∈ L) = true) := decide_eq_true hm
      have hhn : L.length ≤ 100000000 := by omega
      clear hm HK hn
      change Calls _ _ #[.agg #[.int .i64 1, .int .i64 n, .string ByteArray.empty, .slice none 0 0], _, _, _] _ _
      have sn := HB1.out.seen.c0
      go_enter Try.func63, Try.ntmps63
      go_wp2_with (first
        | (at_lookup; refine wpList_lookup_setG _ rfl _ _ 74 rfl Try.underlying3 Try.underlying74 Try.underlying4 (Try.zeroValue4 _) (h + 2) L.length _ rfl HB1.out.set n rfl (by omega) ?_; rw [hd.out])
        | (go_at_call 62; ((with_reducible refine (HA1.out _).mono ?_); rintro e W1 ⟨rfl, bb⟩; have B1 := Lib.hid (HB1.out.below bb); clear bb)))
      go_loopg [28] 0 (fun n i wr => i = .int .i64 0 ∧ Hid (wr = W1))
      case atStart => exact ⟨rfl, rfl⟩
      case round =>
        obtain ⟨rfl, HW⟩ := hrel
        go_wp2
        go_end0
        exact ⟨rfl, v, by rw [HW.out]; exact B1.out⟩
    · have HK : Hid (addVs L (Tm.vs (.var n)) = L ++ [(n : Int)]) := by show _ = _; simp [Tm.vs, addVs_cons, addVs_nil, addV_new hm]
      rw [HK.out]
      have hd : Hid (decide ((n : Int) ∈ L) = false) := decide_eq_false hm
      have hhn : L.length < 100000000 := by simp [Tm.size] at hn; omega
      clear hm HK hn
      change Calls _ _ #[.agg #[.int .i64 1, .int .i64 n, .string ByteArray.empty, .slice none 0 0], _, _, _] _ _
      have sn := HB1.out.seen.c0
      obtain ⟨f0, _⟩ := HBX.out.get 0 rfl
      obtain ⟨f1, _⟩ := HBX.out.get 1 rfl
      have HP : Hid (∀ w5, SetAt Try.prog 3 4 w5 (h + 2) (L.length + 1) (fun j => if j = (n : Int) then true else decide (j ∈ L)) → (wq.alloc (.cells #[.int .i64 1, .int .i64 n, .string ByteArray.empty, .slice none 0 0] 24)).grownBy w5 (some (h + 2)) → VB h w0 w5 v L (L ++ [(n : Int)]) ∧ BoxL w5 wq.heap.size [.int .i64 1, .int .i64 n, .string ByteArray.empty, .slice none 0 0] ∧ wq.heap.size < w5.heap.size) := fun w5 hs hg => by
        refine ⟨HB1.out.grown hg ?_, HBX.out.block (hg.block _ (by simp) (by simp; omega)), by have := hg.size; simp at this; omega⟩
        have hs' : SetAt Try.prog 3 4 w5 (h + 2) (L ++ [(n : Int)]).length (fun j => if j = (n : Int) then true else decide (j ∈ L)) := by simpa using hs
        exact hs'.congr fun j => by by_cases e : j = (n : Int) <;> simp [e]
      go_enter Try.func63, Try.ntmps63
      go_wp2_with (first
        | (at_lookup; refine wpList_lookup_setG _ rfl _ _ 74 rfl Try.underlying3 Try.underlying74 Try.underlying4 (Try.zeroValue4 _) (h + 2) L.length _ rfl HB1.out.set n rfl (by omega) ?_; rw [hd.out])
        | (at_mapUpdate; refine wpList_mapUpdate_set _ rfl _ _ _ 74 rfl 3 4 Try.underlying3 Try.underlying74 Try.underlying4 (h + 2) L.length _ rfl HB1.out.set (by unfold maxLen; omega) n rfl (by omega) true rfl ?_; intro w5 hs5 hg5; obtain ⟨hv5, hx5, hz5⟩ := HP.out w5 hs5 hg5; have V5 := Lib.hid hv5; have X5 := Lib.hid hx5; obtain ⟨f0, _⟩ := hx5.get 0 rfl; obtain ⟨f1, _⟩ := hx5.get 1 rfl; have o5 := hv5.obox.c0; clear hs5 hg5 hv5 hx5)
        | (at_builtin; refine wpList_appendX rfl (.tmp 20) (.tmp 23) 29 rfl (h + 5) 3 i0 (.int .i64 0) 1 8 Try.underlying29 hi hz0 hz1 hz2 rfl (by decide) _ L.length (L.map (Value.int .i64)) rfl V5.out.own _ _ rfl rfl rfl (one1 rfl) ⟨by omega, by omega⟩ V5.out.size ?_; intro g cap w6 ho6 hb6 hk6 hl6; have V6 := Lib.hid (V5.out.app rfl ho6 hb6 hk6); have F6 := Lib.hid (V5.out.obox.kept hk6 (own_ne V5.out.own (by omega))); have X6 := Lib.hid ((X5.out.kept (by simp) hk6 (own_far HB.out.own (Nat.le_refl _)))); have f6 := F6.out.f0; have o6 := F6.out.c0; have X7 := Lib.hid (X6.out.far (a := ⟨h + 1, 0, none⟩) (by simp; omega) (.slice (some ⟨g, 0, none⟩) (L.length + 1) cap)); obtain ⟨g0, _⟩ := X7.out.get 0 rfl; obtain ⟨g1, _⟩ := X7.out.get 1 rfl; obtain ⟨g2, _⟩ := X7.out.get 2 rfl; obtain ⟨g3, _⟩ := X7.out.get 3 rfl)
        | (go_at_call 62; ((with_reducible refine (HA1.out _).mono ?_); rintro e W1 ⟨rfl, bb⟩; have B1 := Lib.hid (V6.out.below bb); clear bb)))
      go_loopg [28] 0 (fun n i wr => i = .int .i64 0 ∧ Hid (wr = W1))
      case atStart => exact ⟨rfl, rfl⟩
      case round =>
        obtain ⟨rfl, HW⟩ := hrel
        go_wp2
        go_end0
        exact ⟨rfl, _, by rw [HW.out]; exact B1.out⟩
  · have hkb : (t.kind == 1) = false := by simpa using hk
    have HV := Lib.hid (Tm.vs_args hk)
    have hl : t.args.length ≤ 100000000 := by have h1 := Tm.sizes_len t.args; have h2 := t.size_eq; omega
    have HS := Lib.hid t.size_eq
    have HZ := Lib.hid (below_one wq)
    obtain ⟨K, hK⟩ : ∃ K, K = t.vs := ⟨_, rfl⟩
    have HKK := Lib.hid hK
    rw [← hK]
    clear hK ht hC h4 hB hn hok hk hc1 hc2
    unfold tmV
    generalize t.args = l at *
    go_enter Try.func63, Try.ntmps63
    go_wp2_with (first | (go_at_call 62; ((with_reducible refine (HA.out _).mono ?_); rintro e W1 ⟨rfl, bb⟩; have B1 := Lib.hid (HB.out.below ((HZ.out _).trans (bb.mono (by simp)))); clear bb)))
    go_loopg [28] l.length (fun n i wr => ∃ (k : Nat) (v' : Value), k ≤ l.length ∧ i = .int .i64 k ∧ Hid (n = l.length - k) ∧ Hid (VB h w0 wr v' (addVs L (Tm.vss (l.take k))) (addVs L (Tm.vss (l.take k)))))
    case atStart => exact ⟨0, v, by omega, rfl, rfl, Lib.hid (by simpa [Tm.vss, addVs_nil] using B1.out)⟩
    case round =>
      obtain ⟨k, v', hk, rfl, HN2, HW⟩ := hrel
      by_cases hlt : k < l.length
      · have hb := HW.out.bel
        obtain ⟨b, off, a1, rfl, hpb, hcc, hta⟩ := HT.out.get k hlt
        obtain ⟨ao1, c1, rfl, _⟩ := hta.shape
        have CX := Lib.hid (HC.out l[k] (List.getElem_mem hlt))
        have HD := Lib.hid (Tm.vss_take l k hlt)
        have HO := Lib.hid (HOK.out l[k] (List.getElem_mem hlt))
        have hbb : (addVs L (Tm.vss (l.take k))).length + l[k].size ≤ 100000000 := by
          have h1 := HN.out; have h2 := HS.out; have h3 := Tm.sizes_take l k hlt; have h4 := Tm.sizes_take_le l (k + 1)
          have h5 := addVs_len L (Tm.vss (l.take k))
          have h6 : (Tm.vss (l.take k)).length ≤ Tm.sizes (l.take k) := Tm.vss_len _
          omega
        generalize l[k] = u at *
        have hcw := hcc.block (hb.block _ hpb)
        obtain ⟨x0, x1, x2, x3⟩ := hcw
        have hbl := World.block_lt_of_cell? wr _ x0
        have wlk := HW.out.walk.c0
        have HU := Lib.hid hta
        have HZ2 := Lib.hid (below_one wr)
        have hwb := World.block_lt_of_cell? wr _ wlk
        have CC : Hid (∀ W, Below wr.heap.size wr W → Calls Try.prog 63 #[.agg #[.int .i64 u.kind, .int .i64 u.num, .string u.name, .slice ao1 u.args.length c1], .pointer (some ⟨h + 3, 0, none⟩), .pointer (some ⟨h + 1, 0, none⟩), .pointer (some ⟨h + 4, 0, none⟩)] W fun e w' => e = .returned (.tuple #[]) ∧ ∃ v'', VB h w0 w' v'' (addVs (addVs L (Tm.vss (l.take k))) u.vs) (addVs (addVs L (Tm.vss (l.take k))) u.vs)) := fun W hW => CX.out _ W v' _ (HW.out.below hW) HU.out HO.out hbb
        clear hta CX hb hcc hbb
        go_wp2_with (first | (go_at_call 63; ((with_reducible refine (CC.out _ (HZ2.out _)).mono ?_); rintro e W2 ⟨rfl, v2, bb⟩; have BB := Lib.hid bb; clear bb)))
        go_roundg (l.length - (k + 1))
        case measure => have := HN2.out; omega
        case rel => exact ⟨k + 1, v2, by omega, by go_num, rfl, Lib.hid (by rw [HD.out, addVs_append]; exact BB.out)⟩
      · obtain rfl : k = l.length := by omega
        go_wp2
        go_end0
        exact ⟨rfl, v', by rw [HKK.out, HV.out, ← Tm.vss_take_end]; exact HW.out⟩
end Go.Proofs.Ytmffobadnmkpbaa
namespace Go.Proofs.Ytmffobadnmkpbaa
open Go.RowKit

theorem walk_all (h : Nat) (w0 : World) (hh : w0.heap.size = h) (t : Tm) : WalkC h w0 t := by
  induction t using Tm.ind with
  | h4 s l ih => exact fun va wr v L hB ht hok hn => walk_step h w0 hh _ va wr v L hB ht hok hn ih
  | _ => exact fun va wr v L hB ht hok hn => walk_step h w0 hh _ va wr v L hB ht hok hn (by simp [Tm.args])
theorem VB.start (w : World) (o : Obj) :
    VB w.heap.size w (((((w.alloc o).alloc (.cells #[.slice none 0 0] 29)).alloc (.map #[] 0)).alloc (.cells #[.map (some (w.heap.size + 1 + 1))] 74)).alloc (.cells #[.func (.func 63) #[] #[.pointer (some ⟨w.heap.size + 1 + 1 + 1, 0, none⟩), .pointer (some ⟨w.heap.size + 1, 0, none⟩), .pointer (some ⟨w.heap.size + 1 + 1 + 1 + 1, 0, none⟩)]] 75)) (.slice none 0 0) [] [] := by
  have al : ∀ (W : World) (o : Obj) (B : Nat), B ≤ W.heap.size → Below B W (W.alloc o) := fun W o B h => (Below.refl B W).alloc h o
  refine ⟨?_, ⟨rfl, .inl ⟨rfl, rfl⟩⟩, ?_, ?_, ?_, ?_, by simp⟩
  · have h := Box1.mk' (w.alloc o) (.slice none 0 0) 29
    rw [show (w.alloc o).heap.size = w.heap.size + 1 by simp] at h
    exact ((h.below (al _ _ (w.heap.size + 2) (by simp)) (by omega)).below (al _ _ (w.heap.size + 2) (by simp)) (by omega)).below (al _ _ (w.heap.size + 2) (by simp)) (by omega)
  · have h := Box1.mk' (((w.alloc o).alloc (.cells #[.slice none 0 0] 29)).alloc (.map #[] 0)) (.map (some (w.heap.size + 1 + 1))) 74
    rw [show (((w.alloc o).alloc (.cells #[.slice none 0 0] 29)).alloc (.map #[] 0)).heap.size = w.heap.size + 3 by simp] at h
    exact h.below (al _ _ (w.heap.size + 4) (by simp)) (by omega)
  · have h := Box1.mk' ((((w.alloc o).alloc (.cells #[.slice none 0 0] 29)).alloc (.map #[] 0)).alloc (.cells #[.map (some (w.heap.size + 1 + 1))] 74)) (.func (.func 63) #[] #[.pointer (some ⟨w.heap.size + 1 + 1 + 1, 0, none⟩), .pointer (some ⟨w.heap.size + 1, 0, none⟩), .pointer (some ⟨w.heap.size + 1 + 1 + 1 + 1, 0, none⟩)]) 75
    rw [show ((((w.alloc o).alloc (.cells #[.slice none 0 0] 29)).alloc (.map #[] 0)).alloc (.cells #[.map (some (w.heap.size + 1 + 1))] 74)).heap.size = w.heap.size + 4 by simp] at h
    exact h
  · have h := SetAt.made (P := Try.prog) (K := 3) (E := 4) ((w.alloc o).alloc (.cells #[.slice none 0 0] 29))
    rw [show ((w.alloc o).alloc (.cells #[.slice none 0 0] 29)).heap.size = w.heap.size + 2 by simp] at h
    exact ((h.below (al _ _ (w.heap.size + 3) (by simp)) (by omega)).below (al _ _ (w.heap.size + 3) (by simp)) (by omega)).congr (by simp)
  · exact ((((al _ _ _ (Nat.le_refl _)).trans (al _ _ _ (by simp))).trans (al _ _ _ (by simp; omega))).trans (al _ _ _ (by simp; omega))).trans (al _ _ _ (by simp; omega))
set_option maxRecDepth 100000 in
set_option maxHeartbeats 3200000 in
theorem vars_c (t : Tm) (va : Value) (w : World) (ht : TmAt (fun _ => True) w t va) (hok : t.ok) (hn : t.size ≤ 1000000) :
    Calls Try.prog 20 #[tmV t va] w (RetIs t.vars w) := by
  obtain ⟨ao, cc, rfl, hc1, hc2⟩ := ht.shape
  have HW : Hid (Calls Try.prog 63 #[.agg #[.int .i64 t.kind, .int .i64 t.num, .string t.name, .slice ao t.args.length cc], .pointer (some ⟨w.heap.size + 1 + 1 + 1, 0, none⟩), .pointer (some ⟨w.heap.size + 1, 0, none⟩), .pointer (some ⟨w.heap.size + 1 + 1 + 1 + 1, 0, none⟩)] (((((w.alloc (.cells #[.int .i64 t.kind, .int .i64 t.num, .string t.name, .slice ao t.args.length cc] 24)).alloc (.cells #[.slice none 0 0] 29)).alloc (.map #[] 0)).alloc (.cells #[.map (some (w.heap.size + 1 + 1))] 74)).alloc (.cells #[.func (.func 63) #[] #[.pointer (some ⟨w.heap.size + 1 + 1 + 1, 0, none⟩), .pointer (some ⟨w.heap.size + 1, 0, none⟩), .pointer (some ⟨w.heap.size + 1 + 1 + 1 + 1, 0, none⟩)]] 75)) fun e w' => e = .returned (.tuple #[]) ∧ ∃ v', VB w.heap.size w w' v' t.vars t.vars) :=
    walk_all w.heap.size w rfl t _ _ _ [] (VB.start w _) (ht.mono fun b hb _ => ⟨hb, rfl⟩) hok (by simp; omega)
  have hmm := @run_makeMap Try.prog
  clear ht hok hn
  unfold tmV
  go_enter Try.func20, Try.ntmps20
  go_wp2_with (first | (go_at_call 63; ((with_reducible refine HW.out.mono ?_); rintro e W1 ⟨rfl, v', bb⟩; have B1 := Lib.hid bb; have b1 := bb.obox.c0; clear bb)))
  obtain ⟨a1, c1, rfl, _⟩ := (SlAt.of_own B1.out.own).shape
  go_ret
  exact ⟨_, _, rfl, SlAt.of_own B1.out.own, B1.out.bel⟩
end Go.Proofs.Ytmffobadnmkpbaa
namespace Go.Proofs.Ytmffobadnmkpbaa
open Go.RowKit

set_option maxRecDepth 100000 in
set_option maxHeartbeats 800000 in
theorem or_c (b : Nat) (x y : Int) (w : World) (h0 : w.cell? ⟨b, 0, none⟩ = some (.int .i64 x)) (h1 : w.cell? ⟨b, 1, none⟩ = some (.int .i64 y)) :
    Calls Try.prog 68 #[.slice (some ⟨b, 0, none⟩) 2 2] w fun e w' => e = .returned (.int .i64 (lex x y)) ∧ w = w' := by
  go_enter Try.func68, Try.ntmps68
  go_wp2
  go_loop [8] (fun s => ∃ k : Nat, k ≤ 2 ∧ s = .int .i64 k ∧ Hid (0 < k → x = 0) ∧ Hid (1 < k → y = 0)) (fun s => 2 - (intOf s).toNat)
  case atStart => exact ⟨0, by omega, rfl, (fun h => by omega : _ → _), (fun h => by omega : _ → _)⟩
  case round =>
    obtain ⟨k, hk, rfl, H0, H1⟩ := hrel
    rcases (by omega : k = 0 ∨ k = 1 ∨ k = 2) with rfl | rfl | rfl
    · by_cases hx : x = 0
      · have HX := Lib.hid hx
        have hxb : (x != 0) = false := by simpa using hx
        clear hx
        go_wp2
        exact ⟨⟨1, by omega, by go_num, fun _ => HX.out, fun h => by omega⟩, by simp [intOf]⟩
      · have HX := Lib.hid hx
        have hxb : (x != 0) = true := by simpa using hx
        clear hx
        go_wp2
        go_ret
        exact ⟨ret_int (by rw [lex_ne _ HX.out]), rfl⟩
    · have e0 := H0.out (by omega)
      by_cases hx : y = 0
      · have HX := Lib.hid hx
        have hxb : (y != 0) = false := by simpa using hx
        clear hx
        have E0 := Lib.hid e0
        clear e0
        go_wp2
        exact ⟨⟨2, by omega, by go_num, fun _ => E0.out, fun h => HX.out⟩, by simp [intOf]⟩
      · have HX := Lib.hid hx
        have hxb : (y != 0) = true := by simpa using hx
        clear hx
        have E0 := Lib.hid e0
        clear e0
        go_wp2
        go_ret
        exact ⟨ret_int (by rw [E0.out, lex_zero]), rfl⟩
    · have E0 := Lib.hid (H0.out (by omega))
      have E1 := Lib.hid (H1.out (by omega))
      go_wp2
      go_ret
      exact ⟨ret_int (by rw [E0.out, E1.out, lex_zero]), rfl⟩
end Go.Proofs.Ytmffobadnmkpbaa
namespace Go.Proofs.Ytmffobadnmkpbaa
open Go.RowKit

/-- what is asked of term.Compare at a term -/
def CmpC (t : Tm) : Prop := ∀ (u : Tm) (va vb : Value) (w : World), TmAt (fun _ => True) w t va → TmAt (fun _ => True) w u vb →
  Calls Try.prog 23 #[tmV t va, tmV u vb] w fun e w' => e = .returned (.int .i64 (cmpT t u)) ∧ Below w.heap.size w w'

theorem below_two (w : World) (o o2 : Obj) : Below w.heap.size w ((w.alloc o).alloc o2) := ((Below.refl _ _).alloc (Nat.le_refl _) o).alloc (by simp) o2
theorem cmpL_drop (a b : List Tm) (k : Nat) (h : k < a.length) (h2 : k < b.length) : cmpL (a.drop k) (b.drop k) = lex (cmpT a[k] b[k]) (cmpL (a.drop (k + 1)) (b.drop (k + 1))) := by
  rw [List.drop_eq_getElem_cons h, List.drop_eq_getElem_cons h2, cmpL]
theorem cmpL_gt (a b : List Tm) (k : Nat) (h : k < a.length) (h2 : b.length ≤ k) : cmpL (a.drop k) (b.drop k) = 1 := by
  rw [List.drop_eq_getElem_cons h, List.drop_eq_nil_of_le h2, cmpL]
theorem cmpL_end (a b : List Tm) (k : Nat) (h : a.length ≤ k) (h2 : k < b.length) : cmpL (a.drop k) (b.drop k) = -1 := by
  rw [List.drop_eq_getElem_cons h2, List.drop_eq_nil_of_le h, cmpL]
theorem cmpL_end0 (a b : List Tm) (k : Nat) (h : a.length ≤ k) (h2 : b.length ≤ k) : cmpL (a.drop k) (b.drop k) = 0 := by
  rw [List.drop_eq_nil_of_le h, List.drop_eq_nil_of_le h2, cmpL]

set_option maxRecDepth 100000 in
set_option maxHeartbeats 1600000 in
theorem cmpFunc_c (va vb : Value) (la lb : List Tm) (w : World) (ha : TsAt (fun _ => True) w va la) (hb : TsAt (fun _ => True) w vb lb) (hC : ∀ t ∈ la, CmpC t) :
    Calls Try.prog 69 #[va, vb, .func (.func 23) #[] #[]] w fun e w' => e = .returned (.int .i64 (cmpL la lb)) ∧ Below w.heap.size w w' := by
  obtain ⟨ao, ca, rfl, _, _⟩ := ha.shape
  obtain ⟨bo, cb, rfl, _, _⟩ := hb.shape
  have hla : la.length ≤ 9223372036854775807 := by have := ha.shape; obtain ⟨_, _, h, h1, h2⟩ := this; simp only [Value.slice.injEq, true_and] at h; obtain ⟨rfl, rfl⟩ := h; unfold maxLen at h2; omega
  have hlb : lb.length ≤ 9223372036854775807 := by have := hb.shape; obtain ⟨_, _, h, h1, h2⟩ := this; simp only [Value.slice.injEq, true_and] at h; obtain ⟨rfl, rfl⟩ := h; unfold maxLen at h2; omega
  have HA := Lib.hid ha
  have HB := Lib.hid hb
  have HC := Lib.hid hC
  clear ha hb hC
  go_enter Try.func69, Try.ntmps69
  go_wp2
  go_loopg [13] la.length (fun n i wr => ∃ k : Nat, k ≤ la.length ∧ k ≤ lb.length ∧ i = .int .i64 k ∧ Hid (n = la.length - k) ∧ Hid (cmpL la lb = cmpL (la.drop k) (lb.drop k)) ∧ Hid (Below w.heap.size w wr))
  case atStart => exact ⟨0, by omega, by omega, rfl, rfl, rfl, Below.refl _ _⟩
  case round =>
    obtain ⟨k, hk, hk2, rfl, HN, HE, HW⟩ := hrel
    by_cases hlt : k < la.length
    · obtain ⟨b, off, a1, rfl, -, hcc, hta⟩ := (HA.out.later HW.out).get k hlt
      obtain ⟨x0, x1, x2, x3⟩ := hcc
      have CX := Lib.hid (HC.out la[k] (List.getElem_mem hlt))
      obtain ⟨ao1, cc1, rfl, _⟩ := hta.shape
      by_cases hlt2 : k < lb.length
      · obtain ⟨b2, off2, a2, rfl, -, hcc2, htb⟩ := (HB.out.later HW.out).get k hlt2
        have hb2 := hcc2.lt
        obtain ⟨y0, y1, y2, y3⟩ := hcc2
        have HD := Lib.hid (cmpL_drop la lb k hlt hlt2)
        obtain ⟨ao2, cc2, rfl, _⟩ := htb.shape
        generalize la[k] = ta at x0 x1 x2 x3 hta CX HD
        generalize lb[k] = tb at y0 y1 y2 y3 htb HD
        have HTA := Lib.hid hta
        have HTB := Lib.hid htb
        have CC : Hid (∀ W, Below wr.heap.size wr W → Calls Try.prog 23 #[.agg #[.int .i64 ta.kind, .int .i64 ta.num, .string ta.name, .slice ao1 ta.args.length cc1], .agg #[.int .i64 tb.kind, .int .i64 tb.num, .string tb.name, .slice ao2 tb.args.length cc2]] W fun e w' => e = .returned (.int .i64 (cmpT ta tb)) ∧ Below W.heap.size W w') := fun W h => CX.out tb _ _ W (HTA.out.later h) (HTB.out.later h)
        clear hta htb
        by_cases h0 : cmpT ta tb = 0
        · rw [h0] at CC HD
          go_wp2_with (first | (go_at_call 23; ((with_reducible refine (CC.out _ (below_two _ _ _)).mono ?_); rintro e W2 ⟨rfl, bb⟩; have BB := Lib.hid bb; clear bb)))
          go_roundg (la.length - (k + 1))
          case measure => have := HN.out; omega
          case rel => exact ⟨k + 1, by omega, by omega, by go_num, rfl, HE.out.trans (HD.out.trans (lex_zero _)), (HW.out.trans ((below_two _ _ _).mono HW.out.size)).trans (BB.out.mono (by have := HW.out.size; simp; omega))⟩
        · have H0 := Lib.hid h0
          generalize hv : cmpT ta tb = v at *
          have HV := Lib.hid hv
          have hvb : (v != 0) = true := by simpa using h0
          clear h0 hv
          go_wp2_with (first | (go_at_call 23; ((with_reducible refine (CC.out _ (below_two _ _ _)).mono ?_); rintro e W2 ⟨rfl, bb⟩; have BB := Lib.hid bb; clear bb)))
          go_ret
          exact ⟨ret_int (by rw [HE.out, HD.out, lex_ne _ H0.out]), (HW.out.trans ((below_two _ _ _).mono HW.out.size)).trans (BB.out.mono (by have := HW.out.size; simp; omega))⟩
      · have HX := Lib.hid (cmpL_gt la lb k hlt (by omega))
        go_wp2
        go_ret
        exact ⟨ret_int (by rw [HE.out, HX.out]), HW.out.trans (((Below.refl _ _).alloc (Nat.le_refl _) _).mono HW.out.size)⟩
    · by_cases hlt2 : k < lb.length
      · have HX := Lib.hid (cmpL_end la lb k (by omega) hlt2)
        obtain rfl : k = la.length := by omega
        go_wp2
        go_ret
        exact ⟨ret_int (by rw [HE.out, HX.out]), HW.out⟩
      · have HX := Lib.hid (cmpL_end0 la lb k (by omega) (by omega))
        have e1 : la.length = k := by omega
        have e2 : lb.length = k := by omega
        go_wp2
        go_ret
        exact ⟨ret_int (by rw [HE.out, HX.out]), HW.out⟩
end Go.Proofs.Ytmffobadnmkpbaa
namespace Go.Proofs.Ytmffobadnmkpbaa
open Go.RowKit

/-- a list of the call's own that grows, all of it above a place -/
structure IL (g0 : Nat) (w0 wr : World) (v : Value) (L : List Int) : Prop where
  own : wr.ownsRow g0 3 1 v L.length (L.map (Value.int .i64))
  bel : Below g0 w0 wr
theorem IL.below {g0 : Nat} {w0 wr wr' : World} {v : Value} {L : List Int} (H : IL g0 w0 wr v L) (hg : g0 ≤ wr.heap.size) (hb : Below wr.heap.size wr wr') : IL g0 w0 wr' v L :=
  ⟨own_below H.own hb, H.bel.trans (hb.mono hg)⟩
theorem own_made1 (w : World) (e : TypeId) : (w.alloc (.cells #[] e)).ownsRow w.heap.size e 1 (.slice (some ⟨w.heap.size, 0, none⟩) 0 0) 0 [] :=
  World.ownsRow_made (base := w.heap.size) (size := 1) (e := e) w #[] 0 (by simp) (by decide) rfl
theorem addVs_take (o l : List Int) (k : Nat) (h : k < l.length) : addVs o (l.take (k + 1)) = addV (addVs o (l.take k)) l[k] := by
  rw [List.take_succ_eq_append_getElem h, addVs_append]; rfl
theorem own_lower {w : World} {base base' : Nat} {e : TypeId} {size : Nat} {v : Value} {n : Nat} {xs : List Value} (h : w.ownsRow base e size v n xs) (hb : base' ≤ base) : w.ownsRow base' e size v n xs := by
  refine ⟨h.1, ?_⟩
  rcases h.2 with hn | ⟨g, cap, cur, rfl, hg, rest⟩
  · exact .inl hn
  · exact .inr ⟨g, cap, cur, rfl, Nat.le_trans hb hg, rest⟩
/-- the list L, in a row of its own in new memory -/
def RetOwnI (L : List Int) (w : World) (e : Ending) (w' : World) : Prop := ∃ ao cap, e = .returned (.slice ao L.length cap) ∧ w'.ownsRow w.heap.size 3 1 (.slice ao L.length cap) L.length (L.map (Value.int .i64)) ∧ Below w.heap.size w w'
/-- the list that grows, and the one that is added to it -/
structure IL2 (g0 B1 : Nat) (w0 wr : World) (v : Value) (O : List Int) (lv : Value) (X : List Int) : Prop where
  il : IL g0 w0 wr v O
  lown : wr.ownsRow B1 3 1 lv X.length (X.map (Value.int .i64))
  ap : Apart lv v
  sz : g0 ≤ wr.heap.size
theorem IL2.below {g0 B1 : Nat} {w0 wr wr' : World} {v : Value} {O : List Int} {lv : Value} {X : List Int} (H : IL2 g0 B1 w0 wr v O lv X) (hb : Below wr.heap.size wr wr') : IL2 g0 B1 w0 wr' v O lv X :=
  ⟨H.il.below H.sz hb, own_below H.lown hb, H.ap, Nat.le_trans H.sz hb.size⟩
theorem IL2.push {g0 B1 : Nat} {w0 wr w6 : World} {v : Value} {O : List Int} {lv : Value} {X : List Int} (H : IL2 g0 B1 w0 wr v O lv X) {n : Int} {g c : Nat} (ho : w6.ownsRow g0 3 1 (.slice (some ⟨g, 0, none⟩) (O.length + 1) c) (O.length + 1) (O.map (Value.int .i64) ++ [.int .i64 n])) (hb : Below g0 wr w6) (hk : KeepsBut wr w6 v) (hl : v.ownBlock = some g ∨ wr.heap.size ≤ g) : IL2 g0 B1 w0 w6 (.slice (some ⟨g, 0, none⟩) (O.length + 1) c) (O ++ [n]) lv X := by
  refine ⟨⟨by simpa using ho, H.il.bel.trans hb⟩, own_kept H.lown hk H.ap, fun b h1 h2 => ?_, Nat.le_trans H.sz hb.size⟩
  have h2' : g = b := by simpa [Value.ownBlock] using h2
  subst h2'
  rcases hl with hl | hl
  · exact H.ap g h1 hl
  · have := (H.lown.lt g h1).2; omega
def RVarsC (t : Tm) : Prop := ∀ (va : Value) (w : World), TmAt (fun _ => True) w t va → t.ok → t.size ≤ 1000000 → Calls Try.prog 21 #[tmV t va] w (RetOwnI t.vars w)

set_option maxRecDepth 100000 in
set_option maxHeartbeats 6400000 in
theorem rvars_step (t : Tm) (va : Value) (w : World) (ht : TmAt (fun _ => True) w t va) (hok : t.ok) (hn : t.size ≤ 1000000) (hC : ∀ u ∈ t.args, RVarsC u) :
    Calls Try.prog 21 #[tmV t va] w (RetOwnI t.vars w) := by
  have h4 := fun h => ht.nil_of h
  obtain ⟨ao, cc, rfl, hc1, hc2⟩ := ht.shape
  have HT := Lib.hid (TsAt.of_tm ht)
  have HC := Lib.hid hC
  have HN := Lib.hid hn
  have HOK := Lib.hid (Tm.ok_args hok)
  obtain ⟨i0, hi, hz0, hz1, hz2⟩ := info_parts Try.infoInt
  by_cases hk : t.kind = 1
  · obtain ⟨n, rfl, hn5⟩ := Tm.ok_var hok hk
    have he := h4 (by simp [Tm.kind])
    simp only [Value.slice.injEq, Tm.args, List.length_nil] at he
    obtain ⟨rfl, -, rfl⟩ := he
    clear HT HC HN HOK h4 ht hok hk hc1 hc2 hC hn
    have HO : Hid (((w.alloc (.cells #[.int .i64 1, .int .i64 n, .string ByteArray.empty, .slice none 0 0] 24)).alloc (.cells #[] 3)).ownsRow (w.heap.size + 1) 3 1 (.slice (some ⟨w.heap.size + 1, 0, none⟩) 0 0) 0 []) := by
      have h := own_made1 (w.alloc (.cells #[.int .i64 1, .int .i64 n, .string ByteArray.empty, .slice none 0 0] 24)) 3
      simp only [World.size_alloc] at h
      exact h
    have HB : Hid (∀ T, Below w.heap.size w ((w.alloc (.cells #[.int .i64 1, .int .i64 n, .string ByteArray.empty, .slice none 0 0] 24)).alloc (.cells #[] T))) := fun T => below_two _ _ _
    change Calls _ _ #[.agg #[.int .i64 1, .int .i64 n, .string ByteArray.empty, .slice none 0 0]] _ (RetOwnI [(n : Int)] w)
    go_enter Try.func21, Try.ntmps21
    go_wp2_with (first
      | (at_builtin; refine wpList_appendX rfl (.tmp 11) (.tmp 14) 29 rfl (w.heap.size + 1) 3 i0 (.int .i64 0) 1 8 Try.underlying29 hi hz0 hz1 hz2 rfl (by decide) _ 0 [] rfl HO.out #[.int .i64 n] (w.heap.size + 1 + 1) rfl (by simp) rfl (one1 rfl) ⟨by omega, by omega⟩ (by simp) ?_; intro g cap w6 ho6 hb6 hk6 hl6; have O6 := Lib.hid ho6; have B6 := Lib.hid ((HB.out _).trans (hb6.mono (by simp))); clear ho6 hb6 hk6 hl6))
    go_ret
    exact ⟨_, _, rfl, own_lower O6.out (by omega), B6.out⟩
  · have hkb : (t.kind == 1) = false := by simpa using hk
    have HV := Lib.hid (Tm.vs_args hk)
    have HS := Lib.hid t.size_eq
    have hl : t.args.length ≤ 1000000 := by have h1 := Tm.sizes_len t.args; have h2 := t.size_eq; omega
    have HK4 : Hid (t.kind ≠ 4 → t.args = []) := fun h => Tm.args_kind h
    have HVV : Hid (t.vars = addVs [] (Tm.vss t.args)) := by show _ = _; rw [Tm.vars, Tm.vs_args hk]
    obtain ⟨V, hV⟩ : ∃ V, V = t.vars := ⟨_, rfl⟩
    rw [← hV]
    have HVV2 : Hid (V = addVs [] (Tm.vss t.args)) := hV.trans HVV.out
    have HZ : Hid (∀ o, Below (w.heap.size + 1) (w.alloc o) (w.alloc o)) := fun o => Below.refl _ _
    clear hV HVV ht hC h4 hn hok hk hc1 hc2 HV
    unfold tmV
    generalize t.args = l at *
    by_cases hk4 : t.kind = 4
    · rw [hk4] at hkb ⊢
      clear hk4 HK4
      have HX := Lib.hid (below_one w (.cells #[.int .i64 4, .int .i64 t.num, .string t.name, .slice ao l.length cc] 24))
      have HO : Hid (((w.alloc (.cells #[.int .i64 4, .int .i64 t.num, .string t.name, .slice ao l.length cc] 24)).alloc (.cells #[] 3)).ownsRow (w.heap.size + 1) 3 1 (.slice (some ⟨w.heap.size + 1, 0, none⟩) 0 0) 0 []) := by
        have h := own_made1 (w.alloc (.cells #[.int .i64 4, .int .i64 t.num, .string t.name, .slice ao l.length cc] 24)) 3
        simp only [World.size_alloc] at h
        exact h
      go_enter Try.func21, Try.ntmps21
      go_wp2
      go_loopg [3, 4] l.length (fun n o i wr => ∃ (k : Nat), k ≤ l.length ∧ i = .int .i64 k ∧ Hid (n = l.length - k) ∧ Hid (IL (w.heap.size + 1) (w.alloc (.cells #[.int .i64 4, .int .i64 t.num, .string t.name, .slice ao l.length cc] 24)) wr o (addVs [] (Tm.vss (l.take k)))) ∧ Hid (w.heap.size + 1 ≤ wr.heap.size))
      case atStart => exact ⟨0, by omega, rfl, rfl, ⟨by simpa [Tm.vss, addVs_nil] using HO.out, (HZ.out _).alloc (by simp) _⟩, Lib.hid (by simp)⟩
      case round =>
        obtain ⟨k, hk, rfl, HN2, HW, HSZ⟩ := hrel
        have HB := Lib.hid (HX.out.trans (HW.out.bel.mono (by omega)))
        obtain ⟨y0, y1, y2, y3⟩ := box_one HW.out.bel
        obtain ⟨oa, oc, rfl, _⟩ := (SlAt.of_own HW.out.own).shape
        by_cases hlt : k < l.length
        · obtain ⟨b, off, a1, rfl, -, hcc, hta⟩ := (HT.out.later HB.out).get k hlt
          obtain ⟨ao1, c1, rfl, _⟩ := hta.shape
          have CX := Lib.hid (HC.out l[k] (List.getElem_mem hlt))
          have HD := Lib.hid (Tm.vss_take l k hlt)
          have HO2 := Lib.hid (HOK.out l[k] (List.getElem_mem hlt))
          have hbb : l[k].size ≤ 1000000 := by have h1 := HN.out; have h2 := HS.out; have h3 := Tm.sizes_mem (List.getElem_mem hlt); omega
          have hob : (addVs [] (Tm.vss (l.take k))).length + l[k].vars.length ≤ 1000000 := by
            have h1 := HN.out; have h2 := HS.out; have h3 := Tm.sizes_take l k hlt; have h4 := Tm.sizes_take_le l (k + 1)
            have h5 := addVs_len [] (Tm.vss (l.take k))
            have h6 : (Tm.vss (l.take k)).length ≤ Tm.sizes (l.take k) := Tm.vss_len _
            have h7 := l[k].vars_len
            simp only [List.length_nil] at h5
            omega
          have HE : Hid (addVs [] (Tm.vss (l.take (k + 1))) = addVs (addVs [] (Tm.vss (l.take k))) l[k].vars) := by show _ = _; rw [HD.out, addVs_append, Tm.vars, addVs_dedup]
          generalize l[k] = u at *
          obtain ⟨x0, x1, x2, x3⟩ := hcc
          have hbl := World.block_lt_of_cell? wr _ x0
          have CC : Hid (Calls Try.prog 21 #[.agg #[.int .i64 u.kind, .int .i64 u.num, .string u.name, .slice ao1 u.args.length c1]] wr (RetOwnI u.vars wr)) := CX.out _ wr hta HO2.out hbb
          obtain ⟨W0, hW0⟩ : ∃ W0, W0 = wr := ⟨_, rfl⟩
          have HSW : Hid (w.heap.size + 1 ≤ W0.heap.size) := by rw [hW0]; exact HSZ
          generalize addVs [] (Tm.vss (l.take k)) = O at *
          generalize u.vars = X at *
          have HW0 : Hid (∀ W2, Below wr.heap.size wr W2 → ∀ lv, W2.ownsRow wr.heap.size 3 1 lv X.length (X.map (Value.int .i64)) → IL2 (w.heap.size + 1) wr.heap.size (w.alloc (.cells #[.int .i64 4, .int .i64 t.num, .string t.name, .slice (some ⟨b, off, none⟩) l.length cc] 24)) W2 (.slice oa O.length oc) O lv X) := fun W2 hb lv hl =>
            ⟨HW.out.below HSZ.out hb, hl, fun b h1 h2 => by have := (hl.lt b h1).1; have := (HW.out.own.lt b h2).2; omega, Nat.le_trans HSZ.out hb.size⟩
          clear hta CX
          go_wp2_with (first | (go_at_call 21; ((with_reducible refine CC.out.mono ?_); rintro e W2 ⟨la, lc, rfl, lo, bb⟩; have I2 := Lib.hid (HW0.out W2 bb _ lo); clear bb lo)))
          clear y0 y1 y2 y3 x0 x1 x2 x3 HW HW0 HB HX HO CC
          rw [← hW0] at I2
          clear hW0
          have hxl : X.length ≤ 1000000 := by omega
          go_loopg [3, 6] X.length (fun n o i wr => ∃ (j : Nat), j ≤ X.length ∧ i = .int .i64 j ∧ Hid (n = X.length - j) ∧ Hid (IL2 (w.heap.size + 1) W0.heap.size (w.alloc (.cells #[.int .i64 4, .int .i64 t.num, .string t.name, .slice (some ⟨b, off, none⟩) l.length cc] 24)) wr o (addVs O (X.take j)) (.slice la X.length lc) X))
          case atStart => exact ⟨0, by omega, rfl, rfl, I2⟩
          case round =>
            obtain ⟨j, hj, rfl, HN3, HI⟩ := hrel
            have hZ := addVs_len O (X.take j)
            have hTL := List.length_take_le j X
            have hTM : (X.take j).length ≤ X.length := by rw [List.length_take]; omega
            obtain ⟨oa2, oc2, rfl, _⟩ := (SlAt.of_own HI.out.il.own).shape
            by_cases hlj : j < X.length
            · obtain ⟨b1, o1, rfl, q1, q2, hc1⟩ := (IsAt.own HI.out.lown).getR j hlj
              have j1 : (j : Int) < X.length := by omega
              have HAT := Lib.hid (addVs_take O X j hlj)
              generalize addVs O (X.take j) = O3 at *
              have CH := Lib.hid (has_c _ O3 X[j] wr (IsAt.own HI.out.il.own) (by omega))
              generalize X[j] = x at *
              have HP : Hid (∀ W3, Below wr.heap.size wr W3 → IL2 (w.heap.size + 1) W0.heap.size (w.alloc (.cells #[.int .i64 4, .int .i64 t.num, .string t.name, .slice (some ⟨b, off, none⟩) l.length cc] 24)) W3 (.slice oa2 O3.length oc2) O3 (.slice (some ⟨b1, o1, none⟩) X.length lc) X ∧ W3.cell? ⟨b1, o1 + j, none⟩ = some (.int .i64 x)) := fun W3 h3 => ⟨HI.out.below h3, (h3.cell (p := ⟨b1, o1 + j, none⟩) q2).trans hc1⟩
              have hol : O3.length ≤ 1000000 := by omega
              clear hZ hTL hTM
              by_cases hm : x ∈ O3
              · have HAT2 : Hid (addVs O (X.take (j + 1)) = O3) := HAT.out.trans (addV_mem hm)
                have hd : Hid (decide (x ∈ O3) = true) := decide_eq_true hm
                rw [hd.out] at CH
                clear hm hd
                go_wp2_with (first | (go_at_call 64; ((with_reducible refine CH.out.mono ?_); rintro e W3 ⟨rfl, bb⟩; obtain ⟨i3, c3⟩ := HP.out W3 bb; have I3 := Lib.hid i3; clear bb i3)))
                go_roundg (X.length - (j + 1))
                case measure => have := HN3.out; omega
                case rel => exact ⟨j + 1, by omega, by go_num, rfl, by rw [HAT2.out]; exact I3⟩
              · have HAT2 : Hid (addVs O (X.take (j + 1)) = O3 ++ [x]) := HAT.out.trans (addV_new hm)
                have hd : Hid (decide (x ∈ O3) = false) := decide_eq_false hm
                rw [hd.out] at CH
                clear hm hd
                go_wp2_with (first
                  | (go_at_call 64; ((with_reducible refine CH.out.mono ?_); rintro e W3 ⟨rfl, bb⟩; obtain ⟨i3, c3⟩ := HP.out W3 bb; have I3 := Lib.hid i3; have hb3 := World.block_lt_of_cell? W3 _ c3; clear bb i3))
                  | (at_builtin; refine wpList_appendX rfl (.tmp 47) (.tmp 52) 29 rfl (w.heap.size + 1) 3 i0 (.int .i64 0) 1 8 Try.underlying29 hi hz0 hz1 hz2 rfl (by decide) _ O3.length (O3.map (Value.int .i64)) rfl I3.out.il.own _ _ rfl rfl rfl (one1 rfl) ⟨by omega, by omega⟩ I3.out.sz ?_; intro g cap w6 ho6 hb6 hk6 hl6; have I6 := Lib.hid (I3.out.push ho6 hb6 hk6 hl6); clear ho6 hb6 hk6 hl6))
                go_roundg (X.length - (j + 1))
                case measure => have := HN3.out; omega
                case rel => exact ⟨j + 1, by omega, by go_num, rfl, by rw [HAT2.out]; exact I6⟩
            · obtain rfl : j = X.length := by omega
              go_wp2
              go_roundg (l.length - (k + 1))
              case measure => have := HN2.out; omega
              case rel => exact ⟨k + 1, by omega, by go_num, rfl, Lib.hid (by rw [HE.out]; have h := HI.out.il; simp only [List.take_length] at h ⊢; exact h), Lib.hid HI.out.sz⟩
        · obtain rfl : k = l.length := by omega
          rw [show l.take l.length = l from List.take_length, ← HVV2.out] at HW ⊢
          go_wp2
          go_ret
          exact ⟨_, _, rfl, own_lower HW.out.own (by omega), HB.out⟩
    · have hkb4 : (t.kind == 4) = false := by simpa using hk4
      have hl0 := HK4.out hk4
      subst hl0
      have HX := Lib.hid (below_one w (.cells #[.int .i64 t.kind, .int .i64 t.num, .string t.name, .slice ao 0 cc] 24))
      have HO : Hid (((w.alloc (.cells #[.int .i64 t.kind, .int .i64 t.num, .string t.name, .slice ao 0 cc] 24)).alloc (.cells #[] 3)).ownsRow (w.heap.size + 1) 3 1 (.slice (some ⟨w.heap.size + 1, 0, none⟩) 0 0) 0 []) := by
        have h := own_made1 (w.alloc (.cells #[.int .i64 t.kind, .int .i64 t.num, .string t.name, .slice ao 0 cc] 24)) 3
        simp only [World.size_alloc] at h
        exact h
      have hV0 : V = [] := by have := HVV2.out; simpa [Tm.vss, addVs_nil] using this
      subst hV0
      clear hk4 HK4 HC HT HOK HS HN HVV2
      simp only [List.length_nil]
      go_enter Try.func21, Try.ntmps21
      go_wp2
      go_loopg [3, 4] 0 (fun n o i wr => o = .slice (some ⟨w.heap.size + 1, 0, none⟩) 0 0 ∧ i = .int .i64 0 ∧ Hid (wr = ((w.alloc (.cells #[.int .i64 t.kind, .int .i64 t.num, .string t.name, .slice ao 0 cc] 24)).alloc (.cells #[] 3))))
      case atStart => exact ⟨rfl, rfl, rfl⟩
      case round =>
        obtain ⟨rfl, rfl, HW⟩ := hrel
        have hb : Below (w.heap.size + 1) (w.alloc (.cells #[.int .i64 t.kind, .int .i64 t.num, .string t.name, .slice ao 0 cc] 24)) wr := by rw [HW.out]; exact (Below.refl _ _).alloc (by simp) _
        obtain ⟨y0, y1, y2, y3⟩ := box_one hb
        clear hb
        go_wp2
        go_ret
        exact ⟨_, _, rfl, by rw [HW.out]; exact own_lower HO.out (by omega), by rw [HW.out]; exact HX.out.trans ((Below.refl _ _).alloc (by simp) _)⟩
theorem rvars_all (t : Tm) : RVarsC t := by
  induction t using Tm.ind with
  | h4 s l ih => exact fun va w ht hok hn => rvars_step _ va w ht hok hn ih
  | _ => exact fun va w ht hok hn => rvars_step _ va w ht hok hn (by simp [Tm.args])
end Go.Proofs.Ytmffobadnmkpbaa
