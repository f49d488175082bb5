/-
  lin.part, lin.parts, lin.Sums, lin.Says, walked.
  LISTS OF SETS THAT GROW BY append: none of their sets lies in the list's own block.
  coneyref15.Check and the law LinChecks, walked.
  PLAIN LAWS of the reference's Once of layer 15: the others' sum, each other fixed, what is gone. No program.
  A sum's terms in memory; bounds of their ends.
  lin.parts, lin.Sums, lin.Says, walked.
  lin.Sums, lin.Says, walked.
-/
import Derived.Test.YtaekdgikgbdnnaaGreatKlin1
import Derived.Test.YtaekdgikgbdnnaaGreatKdom3
import Derived.Test.YtaekdgikgbdnnaaGreatKlib1
import Derived.Deep.RegionHeld3
import Derived.Deep.DeepCutAuto
import Derived.Handy
import Derived.Laws.ResultCell
import Derived.Deep.AppendLies
namespace Go.Proofs.YtaekdgikgbdnnaaGreat
open Go.RowKit

theorem mul_bnd (x c B : Int) (hx : -200 ≤ x ∧ x ≤ 200) (hc : -B ≤ c ∧ c ≤ B) : -(200 * B) ≤ c * x ∧ c * x ≤ 200 * B := by
  have h1 : (c * x).natAbs ≤ B.toNat * 200 := by
    rw [Int.natAbs_mul]; exact Nat.mul_le_mul (by omega) (by omega)
  omega
theorem wrap_small {x : Int} (h : -9223372036854775808 ≤ x ∧ x ≤ 9223372036854775807) : IntKind.i64.wrap x = x := by
  simp [IntKind.wrap, IntKind.bits, IntKind.signed]; omega

set_option maxRecDepth 100000 in
set_option maxHeartbeats 800000 in
theorem part_c (vd : Value) (c : Int) (d : List Rg) (w : World) (hd : RgAt w vd d) (hl : d.length ≤ 4096) (hc : -100000 ≤ c ∧ c ≤ 100000) :
    Calls Tryz.prog 161 #[.int .i64 c, vd] w fun e w' => e = .returned (.tuple #[.agg #[.int .i64 (loT c d), .int .i64 (hiT c d)], .bool (okT d)]) ∧ Below w.heap.size w w' := by
  obtain ⟨ao, cap, rfl, _⟩ := hd.shape
  have CE : Hid (∀ W, Below w.heap.size w W → Calls Tryz.prog 45 #[.slice ao d.length cap] W fun e w' => e = .returned (.tuple #[.int .i64 (endsL (norm d)).1, .int .i64 (endsL (norm d)).2.1, .bool (endsL (norm d)).2.2]) ∧ Below W.heap.size W w') := fun W h => ends_c _ d W (hd.below h) hl
  obtain ⟨b1, b2, b3, b4⟩ := ends_bnd d
  unfold loT hiT okT
  clear hd
  generalize (endsL (norm d)).1 = lo at *
  generalize (endsL (norm d)).2.1 = hi at *
  generalize (endsL (norm d)).2.2 = ok at *
  obtain ⟨m1, m2⟩ := mul_bnd lo c 100000 ⟨b1, b2⟩ hc
  obtain ⟨m3, m4⟩ := mul_bnd hi c 100000 ⟨b3, b4⟩ hc
  have w1 := wrap_small (x := c * lo) (by omega)
  have w2 := wrap_small (x := c * hi) (by omega)
  have CE2 : Hid (Calls Tryz.prog 45 #[.slice ao d.length cap] (w.alloc (.cells #[.int .i64 0, .int .i64 0] 198)) fun e w' => e = .returned (.tuple #[.int .i64 lo, .int .i64 hi, .bool ok]) ∧
      Below w.heap.size w w' ∧ Box2 w' w.heap.size (.int .i64 0) (.int .i64 0)) :=
    (CE.out _ ((Below.refl _ _).alloc (Nat.le_refl _) _)).mono fun e w' ⟨he, hb⟩ => ⟨he, ((Below.refl _ _).alloc (Nat.le_refl _) _).trans (hb.mono (by simp)), (Box2.mk' _ _ _ _).past hb⟩
  by_cases h0 : c < 0
  · simp only [if_pos h0]
    go_enter Tryz.func161, Tryz.ntmps161
    go_wp2_with (go_at_call 45; (with_reducible refine CE2.out.mono ?_); rintro e W ⟨rfl, bb, qb⟩; have B1 := Lib.hid bb; have Q := Lib.hid qb; obtain ⟨q1, q2, q3, q4⟩ := qb; clear bb)
    have s0 := (Q.out.set0 (.int .i64 (c * hi))).c0
    have s1 := ((Q.out.set0 (.int .i64 (c * hi))).set1 (.int .i64 (c * lo))).c1
    refine bodyPost_ret (v := .tuple #[.agg #[.int .i64 (c * hi), .int .i64 (c * lo)], .bool ok]) (by rw [results_cell_tmp rfl]; go_simp) rfl ⟨rfl, (B1.out.setCell (p := ⟨w.heap.size, 0, none⟩) (Nat.le_refl _) _).setCell (p := ⟨w.heap.size, 1, none⟩) (Nat.le_refl _) _⟩
  · simp only [if_neg h0]
    go_enter Tryz.func161, Tryz.ntmps161
    go_wp2_with (go_at_call 45; (with_reducible refine CE2.out.mono ?_); rintro e W ⟨rfl, bb, qb⟩; have B1 := Lib.hid bb; have Q := Lib.hid qb; obtain ⟨q1, q2, q3, q4⟩ := qb; clear bb)
    have s0 := (Q.out.set0 (.int .i64 (c * lo))).c0
    have s1 := ((Q.out.set0 (.int .i64 (c * lo))).set1 (.int .i64 (c * hi))).c1
    refine bodyPost_ret (v := .tuple #[.agg #[.int .i64 (c * lo), .int .i64 (c * hi)], .bool ok]) (by rw [results_cell_tmp rfl]; go_simp) rfl ⟨rfl, (B1.out.setCell (p := ⟨w.heap.size, 0, none⟩) (Nat.le_refl _) _).setCell (p := ⟨w.heap.size, 1, none⟩) (Nat.le_refl _) _⟩
end Go.Proofs.YtaekdgikgbdnnaaGreat
namespace Go.Proofs.YtaekdgikgbdnnaaGreat
open Go.RowKit

/-- append of one cell, telling which blocks stay -/
theorem wpList_append1L {P : Program} {ops : Array Oper} {rest : List Oper} {o : Oper} {a : Act} {w : World} {Q : Exit → Act → World → Prop} (hgd : o.guard = none) (s x : Operand) (t : TypeId)
    (ho : o.op = .call { callee := .builtin .append, args := #[s, x], argTypes := #[t, t] })
    (base : Nat) (e : TypeId) (i : TypeInfo) (z : Value) (bytes : Nat) (ht : P.underlying t = some (.slice e)) (hi : P.info? e = some i) (hz : i.zero = some z)
    (hsize : i.size = 1) (hby : i.bytes = bytes) (hzs : z.cells.size = 1)
    (v : Value) (n : Nat) (xs : List Value) (hs : a.eval s = v) (hown : w.ownsRow base e 1 v n xs) {e' : TypeId}
    (u1 : Value) (hx : a.eval x = .slice (some ⟨w.heap.size, 0, none⟩) 1 1) (h1 : u1.oneCell' = true)
    (hbytes : (n + 1) * bytes ≤ 140737488355328 ∧ n + 1 ≤ 140737488355328) (hbase : base ≤ w.heap.size)
    (h : ∀ g cap w', w'.ownsRow base e 1 (.slice (some ⟨g, 0, none⟩) (n + 1) cap) (n + 1) (xs ++ [u1]) → Below base w w' → KeepsBut w w' v → (v.ownBlock = some g ∨ w.heap.size ≤ g) → wpList P ops Q rest (a.put o.dst (.slice (some ⟨g, 0, none⟩) (n + 1) cap)) w') :
    wpList P ops Q (o :: rest) a (w.alloc (.cells #[u1] e')) := by
  refine wpList_append_lies _ hgd s x t ho base e i z 1 bytes ht hi hz hsize hby hzs (by decide) v n xs hs (hown.alloc _) ⟨w.heap.size, 0, none⟩ 1 1 [u1] hx rfl ?_ ?_ (by decide) ?_ hbytes.1 (by simp; omega) _ rfl ?_
  · intro j y hj
    match j, hj with
    | 0, hj => simp at hj; subst hj; simp [Addr.add]
  · intro y hy; simp at hy; subst hy; exact h1
  · unfold maxLen; omega
  · intro g cap w' r1 r2 r3 _
    refine h g cap w' r1 (below_grown hbase r2 (ownBlock_ge hown)) (fun b hb hne => ?_) ?_
    · rw [r2.block b (by simp; omega) (fun he => hne he.symm)]
      exact Below.heap_alloc w _ b hb
    · rcases r3 with h3 | h3
      · exact .inl h3
      · right; rw [h3]; simp

theorem RgAt.keptBut {w w' : World} {v u : Value} {d : List Rg} (h : RgAt w u d) (hk : KeepsBut w w' v) (ha : d ≠ [] → Apart u v) : RgAt w' u d := by
  obtain ⟨h1, ao, cap, rfl, h2, h3, h5, h4⟩ := h
  refine ⟨h1, ao, cap, rfl, h2, h3, h5, fun hp => ?_⟩
  obtain ⟨b, off, rfl, hlt, hc⟩ := h4 hp
  have hne : d ≠ [] := by rintro rfl; simp at hp
  have e := hk b hlt (ha hne b rfl)
  refine ⟨b, off, rfl, ?_, fun j hj => ?_⟩
  · have h0 := hc 0 hp
    have hl : (cellsR d).length = d.length * 2 := h1
    rw [List.getElem?_eq_getElem (by omega)] at h0
    have := World.cell?_of_block (a := ⟨b, off + 0, none⟩) e
    rw [h0] at this
    exact World.block_lt_of_cell? w' _ this
  · rw [← hc j hj]; exact World.cell?_of_block e
theorem RgAt.blk {w : World} {u : Value} {d : List Rg} (h : RgAt w u d) (hne : d ≠ []) : ∀ b, u.ownBlock = some b → b < w.heap.size := fun b hb => by
  obtain ⟨h1, ao, cap, rfl, h2, h3, h5, h4⟩ := h
  have hp : 0 < d.length * 2 := by have := List.length_pos_iff.2 hne; omega
  obtain ⟨b', off, rfl, hlt, hc⟩ := h4 hp
  simp [Value.ownBlock] at hb; omega

def DsApp (w : World) (base : Nat) (v : Value) (ds : Ds) (us : List Value) : Prop :=
  us.length = ds.length ∧ w.ownsRow base 61 1 v ds.length us ∧ ∀ j, (hj : j < ds.length) → ∃ u, us[j]? = some u ∧ RgAt w u ds[j] ∧ (ds[j] ≠ [] → Apart u v)
theorem DsApp.own {w : World} {base : Nat} {v : Value} {ds : Ds} {us : List Value} (h : DsApp w base v ds us) : DsOwn w base v ds :=
  ⟨us, h.1, h.2.1, fun j hj => by obtain ⟨u, a, b, _⟩ := h.2.2 j hj; exact ⟨u, a, b⟩⟩
theorem DsApp.below {w w' : World} {base : Nat} {v : Value} {ds : Ds} {us : List Value} (h : DsApp w base v ds us) (hb : Below w.heap.size w w') : DsApp w' base v ds us :=
  ⟨h.1, own_below h.2.1 hb, fun j hj => by obtain ⟨u, a, b, c⟩ := h.2.2 j hj; exact ⟨u, a, b.below hb, c⟩⟩
theorem DsApp.nil {w : World} {base : Nat} {v : Value} (h : w.ownsRow base 61 1 v 0 []) : DsApp w base v [] [] := ⟨rfl, h, fun j hj => by simp at hj⟩
theorem DsApp.push {w w' : World} {base : Nat} {v : Value} {ds : Ds} {us : List Value} (h : DsApp w base v ds us) {u : Value} {d : List Rg} (hu : RgAt w u d) (ha : d ≠ [] → Apart u v) {g cap : Nat}
    (ho : w'.ownsRow base 61 1 (.slice (some ⟨g, 0, none⟩) (ds.length + 1) cap) (ds.length + 1) (us ++ [u])) (hk : KeepsBut w w' v) (hg : v.ownBlock = some g ∨ w.heap.size ≤ g) :
    DsApp w' base (.slice (some ⟨g, 0, none⟩) (ds.length + 1) cap) (ds ++ [d]) (us ++ [u]) := by
  have hap : ∀ {x : Value} {r : List Rg}, RgAt w x r → (r ≠ [] → Apart x v) → (r ≠ [] → Apart x (.slice (some ⟨g, 0, none⟩) (ds.length + 1) cap)) := fun {x r} hx h0 hne b hb he => by
    have hb' : g = b := by simpa [Value.ownBlock] using he
    subst hb'
    rcases hg with h1 | h1
    · exact h0 hne g hb h1
    · have := hx.blk hne g hb; omega
  refine ⟨by simp [h.1], by rw [List.length_append]; exact ho, fun j hj => ?_⟩
  rw [List.length_append, List.length_singleton] at hj
  by_cases hjl : j < ds.length
  · obtain ⟨x, a, b, c⟩ := h.2.2 j hjl
    refine ⟨x, by rw [List.getElem?_append_left (by rw [h.1]; exact hjl)]; exact a, ?_, ?_⟩
    · rw [List.getElem_append_left hjl]; exact b.keptBut hk c
    · rw [List.getElem_append_left hjl]; exact hap b c
  · obtain rfl : j = ds.length := by omega
    refine ⟨u, by rw [List.getElem?_append_right (by rw [h.1]; exact Nat.le_refl _), h.1]; simp, ?_, ?_⟩
    · rw [List.getElem_append_right (Nat.le_refl _)]; simp; exact hu.keptBut hk ha
    · rw [List.getElem_append_right (Nat.le_refl _)]; simp; exact hap hu ha
/-- what a call has made new is none of a row's that was there -/
theorem apart_made {w0 : World} {base e size n : Nat} {v u : Value} {xs : List Value} (h : w0.ownsRow base e size v n xs) (hu : ∀ b, u.ownBlock = some b → w0.heap.size ≤ b) : Apart u v := fun b hb he => by
  have := hu b hb
  have := (h.lt b he).2
  omega
end Go.Proofs.YtaekdgikgbdnnaaGreat
namespace Go.Proofs.YtaekdgikgbdnnaaGreat
open Go.RowKit

set_option maxHeartbeats 400000 in
theorem within_any (n lo hi : Int) (w : World) : Calls Tryz.prog 83 #[.int .i64 n, .int .i64 lo, .int .i64 hi] w fun e w' => e = .returned (.bool (decide (lo ≤ n) && decide (n ≤ hi))) ∧ w = w' := by
  by_cases h1 : lo ≤ n
  · by_cases h2 : n ≤ hi
    · go_enter Tryz.func83, Tryz.ntmps83
      go_wp2
      go_ret
      exact ⟨ret_bool (by simp [h1, h2]), rfl⟩
    · go_enter Tryz.func83, Tryz.ntmps83
      go_wp2
      go_ret
      exact ⟨ret_bool (by simp; omega), rfl⟩
  · have h1' : decide (lo ≤ n) = false := by simpa using h1
    go_enter Tryz.func83, Tryz.ntmps83
    go_wp2
    go_ret
    exact ⟨ret_bool (by simp), rfl⟩

theorem any_eq_range (z : Int) (l : List Int) (k : Nat) (hk : k ≤ l.length) : (l.take k).any (z == ·) = (List.range k).any (fun j => l.getD j 0 == z) := by
  rw [Bool.eq_iff_iff, List.any_eq_true, List.any_eq_true]
  constructor
  · rintro ⟨x, hx, he⟩
    obtain ⟨j, hj, rfl⟩ := List.mem_take_iff_getElem.1 hx
    refine ⟨j, by simp; omega, ?_⟩
    rw [beq_iff_eq] at he ⊢
    rw [he]; simp [show j < l.length by omega]
  · rintro ⟨j, hj, he⟩
    have hj' : j < k := by simpa using hj
    refine ⟨l.getD j 0, ?_, by rw [beq_iff_eq] at he ⊢; exact he.symm⟩
    rw [List.mem_take_iff_getElem]
    exact ⟨j, by omega, by simp [show j < l.length by omega]⟩

set_option maxHeartbeats 3200000 in
theorem refCheck_any (v0 v1 : Value) (rel c n : Int) (coef vars : List Int) (w : World) (h0 : IsAt w v0 coef) (h1 : IsAt w v1 vars) (hl0 : coef.length ≤ 4096) (hl1 : vars.length ≤ 4096) :
    Calls Tryz.prog 58 #[.agg #[v0, v1, .int .i64 rel, .int .i64 c], .int .i64 n] w fun e w' => e = .returned (.int .i64 (linChk coef vars rel c n)) ∧ Below w.heap.size w w' := by
  obtain ⟨a0, c0, rfl, _⟩ := h0.shape
  obtain ⟨a1, c1, rfl, _⟩ := h1.shape
  have hB : Below w.heap.size w (w.alloc (.cells #[.slice a0 coef.length c0, .slice a1 vars.length c1, .int .i64 rel, .int .i64 c] 65)) := (Below.refl _ _).alloc (Nat.le_refl _) _
  have H0 := Lib.hid (h0.below hB)
  have H1 := Lib.hid (h1.below hB)
  clear h0 h1
  by_cases e1 : coef.length ≠ vars.length
  · have e1' : ((coef.length : Int) != (vars.length : Int)) = true := by simp; omega
    have hS : Hid (linChk coef vars rel c n = 150) := by show _ = _; simp [linChk, shapeB, e1]
    go_enter Tryz.func58, Tryz.ntmps58
    go_wp2_with (first | (go_at_call 83; ((with_reducible refine (within_any _ _ _ _).mono ?_); rintro e w' ⟨rfl, rfl⟩)))
    go_ret
    exact ⟨ret_int hS.out.symm, hB⟩
  have e1' : ((coef.length : Int) != (vars.length : Int)) = false := by simp; omega
  have e1'' : (coef.length != vars.length) = false := by simp; omega
  have E1 := Lib.hid e1''
  clear e1 e1''
  by_cases e2 : 16 < coef.length
  · have hS : Hid (linChk coef vars rel c n = 150) := by show _ = _; simp [linChk, shapeB, e2]
    go_enter Tryz.func58, Tryz.ntmps58
    go_wp2_with (first | (go_at_call 83; ((with_reducible refine (within_any _ _ _ _).mono ?_); rintro e w' ⟨rfl, rfl⟩)))
    go_ret
    exact ⟨ret_int hS.out.symm, hB⟩
  by_cases e3 : rel < 1
  · have e3' : decide (1 ≤ rel) = false := by simp; omega
    have hS : Hid (linChk coef vars rel c n = 150) := by show _ = _; simp [linChk, shapeB, e3]
    go_enter Tryz.func58, Tryz.ntmps58
    go_wp2_with (first | (go_at_call 83; ((with_reducible refine (within_any _ _ _ _).mono ?_); rintro e w' ⟨rfl, rfl⟩)))
    go_ret
    exact ⟨ret_int hS.out.symm, hB⟩
  by_cases e4 : 3 < rel
  · have e4' : decide (rel ≤ 3) = false := by simp; omega
    have hS : Hid (linChk coef vars rel c n = 150) := by show _ = _; simp [linChk, shapeB, e4]
    go_enter Tryz.func58, Tryz.ntmps58
    go_wp2_with (first | (go_at_call 83; ((with_reducible refine (within_any _ _ _ _).mono ?_); rintro e w' ⟨rfl, rfl⟩)))
    go_ret
    exact ⟨ret_int hS.out.symm, hB⟩
  by_cases e5 : c < -1099511627776
  · have e5' : decide (-1099511627776 ≤ c) = false := by simp; omega
    have hS : Hid (linChk coef vars rel c n = 150) := by show _ = _; simp [linChk, shapeB, e5]
    go_enter Tryz.func58, Tryz.ntmps58
    go_wp2_with (first | (go_at_call 83; ((with_reducible refine (within_any _ _ _ _).mono ?_); rintro e w' ⟨rfl, rfl⟩)))
    go_ret
    exact ⟨ret_int hS.out.symm, hB⟩
  by_cases e6 : 1099511627776 < c
  · have e6' : decide (c ≤ 1099511627776) = false := by simp; omega
    have hS : Hid (linChk coef vars rel c n = 150) := by show _ = _; simp [linChk, shapeB, e6]
    go_enter Tryz.func58, Tryz.ntmps58
    go_wp2_with (first | (go_at_call 83; ((with_reducible refine (within_any _ _ _ _).mono ?_); rintro e w' ⟨rfl, rfl⟩)))
    go_ret
    exact ⟨ret_int hS.out.symm, hB⟩
  have hS : Hid (linChk coef vars rel c n = if coef.any oddB = true then 150 else if (List.range vars.length).any (badV vars n) = true then 160 else 0) := by
    show _ = _
    have := E1.out
    simp [linChk, shapeB, this, e2, e3, e4, e5, e6]
  have e3' : decide (1 ≤ rel) = true := by simp; omega
  have e4' : decide (rel ≤ 3) = true := by simp; omega
  have e5' : decide (-1099511627776 ≤ c) = true := by simp; omega
  have e6' : decide (c ≤ 1099511627776) = true := by simp; omega
  go_enter Tryz.func58, Tryz.ntmps58
  go_wp2_with (first | (go_at_call 83; ((with_reducible refine (within_any _ _ _ _).mono ?_); rintro e w' ⟨rfl, rfl⟩)))
  clear e3' e4' e5' e6' e1'
  go_loop [5] (fun i => ∃ k : Nat, k ≤ coef.length ∧ i = .int .i64 k ∧ (coef.take k).any oddB = false) (fun i => coef.length - (intOf i).toNat)
  case atStart => exact ⟨0, by omega, rfl, by simp⟩
  case round =>
    obtain ⟨k, hk, rfl, hnot⟩ := hrel
    have HN := Lib.hid hnot
    clear hnot
    by_cases hlt : k < coef.length
    · obtain ⟨b, off, cap', he, hcap, _, hc⟩ := IsAt.at H0.out (by omega)
      simp only [Value.slice.injEq, true_and] at he
      obtain ⟨rfl, rfl⟩ := he
      have hcell := hc k hlt
      clear hc
      obtain ⟨z, hz⟩ : ∃ z, z = coef[k] := ⟨_, rfl⟩
      rw [← hz] at hcell
      cases ho : oddB z with
      | true =>
        have hA : Hid (coef.any oddB = true) := by show _ = _; rw [List.any_eq_true]; exact ⟨coef[k], List.getElem_mem hlt, by rw [← hz]; exact ho⟩
        clear hz
        by_cases z1 : -100000 ≤ z
        · by_cases z2 : z ≤ 100000
          · have z0 : z = 0 := by simp [oddB] at ho; omega
            subst z0
            clear ho
            go_wp2_with (first | (go_at_call 83; ((with_reducible refine (within_any _ _ _ _).mono ?_); rintro e w' ⟨rfl, rfl⟩)))
            go_ret
            exact ⟨ret_int (by rw [hS.out, hA.out]; rfl), hB⟩
          · have z1' : decide (-100000 ≤ z) = true := by simpa using z1
            have z2' : decide (z ≤ 100000) = false := by simpa using z2
            clear ho
            go_wp2_with (first | (go_at_call 83; ((with_reducible refine (within_any _ _ _ _).mono ?_); rintro e w' ⟨rfl, rfl⟩)))
            go_ret
            exact ⟨ret_int (by rw [hS.out, hA.out]; rfl), hB⟩
        · have z1' : decide (-100000 ≤ z) = false := by simpa using z1
          clear ho
          go_wp2_with (first | (go_at_call 83; ((with_reducible refine (within_any _ _ _ _).mono ?_); rintro e w' ⟨rfl, rfl⟩)))
          go_ret
          exact ⟨ret_int (by rw [hS.out, hA.out]; rfl), hB⟩
      | false =>
        have hF := Lib.hid (any_take_step oddB coef k hlt HN.out (by rw [← hz]; exact ho))
        clear hz
        have z1' : decide (-100000 ≤ z) = true := by simp [oddB] at ho; simp; omega
        have z2' : decide (z ≤ 100000) = true := by simp [oddB] at ho; simp; omega
        have z0' : (z == 0) = false := by simp [oddB] at ho; simp; omega
        clear ho
        go_wp2_with (first | (go_at_call 83; ((with_reducible refine (within_any _ _ _ _).mono ?_); rintro e w' ⟨rfl, rfl⟩)))
        go_round
        case rel => exact ⟨k + 1, by omega, by go_num, hF.out⟩
        case measure => simp [intOf]; omega
    · have hA : Hid (coef.any oddB = false) := by have := HN.out; rwa [List.take_of_length_le (by omega)] at this
      clear HN
      have HB := Lib.hid hB
      clear hB
      clear H0
      go_wp2
      go_loopw [6] (fun i wr => ∃ k q : Nat, k ≤ vars.length ∧ i = .int .i64 k ∧ wr = (w.alloc (.cells #[.slice a0 coef.length c0, .slice a1 vars.length c1, .int .i64 rel, .int .i64 c] 65)).drewN q ∧ (List.range k).any (badV vars n) = false) (fun i _ => vars.length - (intOf i).toNat)
      case atStart => exact ⟨0, 0, by omega, rfl, rfl, rfl⟩
      case round =>
        obtain ⟨m, q, hm, rfl, rfl, hnot⟩ := hrel
        have HN := Lib.hid hnot
        clear hnot
        by_cases hlt : m < vars.length
        · obtain ⟨b, off, cap', he, hcap, _, hc⟩ := IsAt.at H1.out (by omega)
          simp only [Value.slice.injEq, true_and] at he
          obtain ⟨rfl, rfl⟩ := he
          have HC := Lib.hid hc
          have hcell := hc m hlt
          clear hc
          obtain ⟨z, hz⟩ : ∃ z, z = vars[m] := ⟨_, rfl⟩
          have HZ : Hid (vars.getD m 0 = z) := by show _ = _; rw [hz]; simp [hlt]
          rw [← hz] at hcell
          clear hz
          by_cases z1 : z < 0
          · have hF : Hid ((List.range vars.length).any (badV vars n) = true) := range_any_hit _ m _ hlt (by rw [badV, HZ.out]; simp [z1])
            go_wp2
            go_ret
            exact ⟨ret_int (by rw [hS.out, hA.out, hF.out]; rfl), below_drewN HB.out _⟩
          · by_cases z2 : n ≤ z
            · have hF : Hid ((List.range vars.length).any (badV vars n) = true) := range_any_hit _ m _ hlt (by rw [badV, HZ.out]; simp [z2])
              go_wp2
              go_ret
              exact ⟨ret_int (by rw [hS.out, hA.out, hF.out]; rfl), below_drewN HB.out _⟩
            · go_wp2
              go_loopw [7] (fun i wr => ∃ j q' : Nat, j ≤ m ∧ i = .int .i64 j ∧ wr = (w.alloc (.cells #[.slice a0 coef.length c0, .slice (some ⟨b, off, none⟩) vars.length c1, .int .i64 rel, .int .i64 c] 65)).drewN q' ∧ (List.range j).any (fun j => vars.getD j 0 == z) = false) (fun i _ => m - (intOf i).toNat)
              case atStart => exact ⟨0, q, by omega, rfl, rfl, rfl⟩
              case round =>
                obtain ⟨j, q', hj, rfl, rfl, hnot2⟩ := hrel
                have HM := Lib.hid hnot2
                clear hnot2
                by_cases hjm : j < m
                · have hcj := HC.out j (by omega)
                  obtain ⟨y, hy⟩ : ∃ y, y = vars[j]'(by omega) := ⟨_, rfl⟩
                  have HY : Hid (vars.getD j 0 = y) := by show _ = _; rw [hy]; simp [show j < vars.length by omega]
                  rw [← hy] at hcj
                  clear hy
                  have hmc : m < c1 := by omega
                  have hjc : j < c1 := by omega
                  cases hyz : (y == z) with
                  | true =>
                    have hF : Hid ((List.range vars.length).any (badV vars n) = true) := range_any_hit _ m _ hlt (by
                      have h3 : (vars.take m).any (z == ·) = true := by
                        rw [any_eq_range z vars m (by omega)]
                        exact range_any_hit _ j _ hjm (by rw [HY.out]; exact hyz)
                      rw [badV, HZ.out, h3]; simp)
                    go_wp2
                    go_quiet (fail)
                    go_wp2
                    go_ret
                    exact ⟨ret_int (by rw [hS.out, hA.out, hF.out]; rfl), below_drewN (below_drewN HB.out _) _⟩
                  | false =>
                    have hF := Lib.hid (range_any_step (fun j => vars.getD j 0 == z) j HM.out (by rw [HY.out]; exact hyz))
                    go_wp2
                    go_quiet (fail)
                    go_wp2
                    go_roundw
                    case rel => exact ⟨j + 1, _, by omega, by go_num, rfl, hF.out⟩
                    case measure => simp [intOf]; omega
                · have hF : Hid ((List.range (m + 1)).any (badV vars n) = false) := range_any_step _ m HN.out (by
                    have h3 : (vars.take m).any (z == ·) = false := by
                      rw [any_eq_range z vars m (by omega)]
                      have := HM.out
                      rwa [show j = m by omega] at this
                    rw [badV, HZ.out, h3]; simp; omega)
                  go_wp2
                  go_roundw
                  case rel => exact ⟨m + 1, _, by omega, by go_num, rfl, hF.out⟩
                  case measure => simp [intOf]; omega
        · have hF : Hid ((List.range vars.length).any (badV vars n) = false) := by have := HN.out; rwa [show m = vars.length by omega] at this
          go_wp2
          go_ret
          exact ⟨ret_int (by rw [hS.out, hA.out, hF.out]; rfl), below_drewN HB.out _⟩

end Go.Proofs.YtaekdgikgbdnnaaGreat
namespace Go.Proofs.YtaekdgikgbdnnaaGreat

/-! ### just one integer -/
/-! ### what stays -/
/-- of the integers of a list, range by range, those that p takes, one by one -/
def runG (p : Int → Bool) (lo : Int) : Nat → List Rg
  | 0 => []
  | n + 1 => runG p lo n ++ (if p (lo + n) = true then [(lo + n, lo + n)] else [])
def goneL (p : Int → Bool) (D : List Rg) : List Rg := D.flatMap fun r => runG p r.1 (r.2 + 1 - r.1).toNat
theorem runG_mem (p : Int → Bool) (lo : Int) : ∀ (n : Nat) (x : Int), memL (runG p lo n) x = (decide (lo ≤ x) && decide (x < lo + n) && p x)
  | 0, x => by
    simp only [runG, memL_nil]
    have : (decide (lo ≤ x) && decide (x < lo + (0 : Nat))) = false := by
      rw [Bool.and_eq_false_iff]; by_cases h : lo ≤ x <;> simp [h]
    rw [this]; rfl
  | n + 1, x => by
    rw [runG, memL_append, runG_mem p lo n x]
    by_cases hx : x = lo + n
    · subst hx
      have e1 : decide (lo + (n : Int) < lo + n) = false := by simp
      have e2 : decide (lo ≤ lo + (n : Int)) = true := by simp; omega
      have e3 : decide (lo + (n : Int) < lo + ((n + 1 : Nat) : Int)) = true := by simp; omega
      rw [e1, e2, e3]
      by_cases hp : p (lo + n) = true
      · rw [if_pos hp, hp]; simp [memL]
      · rw [if_neg hp]; simp [memL]; simpa using hp
    · have e1 : memL (if p (lo + n) = true then [(lo + (n : Int), lo + (n : Int))] else []) x = false := by
        split
        · simp [memL]; omega
        · rfl
      rw [e1, Bool.or_false]
      congr 2
      rw [Bool.eq_iff_iff]; simp; omega
theorem memL_flatMap {α : Type} (f : α → List Rg) (x : Int) : ∀ D : List α, memL (D.flatMap f) x = D.any fun r => memL (f r) x
  | [] => rfl
  | r :: D => by rw [List.flatMap_cons, memL_append, memL_flatMap f x D]; rfl
theorem goneL_mem (p : Int → Bool) (D : List Rg) (x : Int) : memL (goneL p D) x = (memL D x && p x) := by
  unfold goneL
  rw [memL_flatMap]
  unfold memL
  induction D with
  | nil => rfl
  | cons r D ih =>
    rw [List.any_cons, List.any_cons, ih]
    have h1 := runG_mem p r.1 (r.2 + 1 - r.1).toNat x
    unfold memL at h1
    have h2 : (decide (r.1 ≤ x) && decide (x < r.1 + ((r.2 + 1 - r.1).toNat : Int))) = (decide (r.1 ≤ x) && decide (x ≤ r.2)) := by
      rw [Bool.eq_iff_iff]; simp; omega
    rw [h1, h2]
    generalize (decide (r.1 ≤ x) && decide (x ≤ r.2)) = u
    generalize (D.any fun r => decide (r.1 ≤ x) && decide (x ≤ r.2)) = v
    cases u <;> cases v <;> cases p x <;> rfl
theorem runG_len (p : Int → Bool) (lo : Int) : ∀ n : Nat, (runG p lo n).length ≤ n
  | 0 => by simp [runG]
  | n + 1 => by
    have := runG_len p lo n
    rw [runG, List.length_append]
    split <;> simp <;> omega
theorem goneL_len (p : Int → Bool) : ∀ D : List Rg, (∀ r ∈ D, r.1 ≤ r.2) → ((goneL p D).length : Int) ≤ sizeL D
  | [], _ => by simp [goneL, sizeL]
  | r :: D, h => by
    have ih := goneL_len p D (fun q hq => h q (by simp [hq]))
    have h1 := runG_len p r.1 (r.2 + 1 - r.1).toNat
    have h2 := h r (by simp)
    simp only [goneL, List.flatMap_cons, List.length_append, sizeL] at *
    omega
theorem goneL_step (p : Int → Bool) (D : List Rg) (j : Nat) (hj : j < D.length) : goneL p (D.take (j + 1)) = goneL p (D.take j) ++ runG p D[j].1 (D[j].2 + 1 - D[j].1).toNat := by
  rw [List.take_succ_eq_append_getElem hj]
  unfold goneL
  rw [List.flatMap_append, List.flatMap_cons, List.flatMap_nil, List.append_nil]
end Go.Proofs.YtaekdgikgbdnnaaGreat
namespace Go.Proofs.YtaekdgikgbdnnaaGreat
open Go.RowKit

/-- a sum that Check has let by, over domains of at most 4096 ranges -/
structure GoodL (coef vars : List Int) (ds : Ds) : Prop where
  len : coef.length = vars.length
  le16 : coef.length ≤ 16
  coefs : ∀ c ∈ coef, -100000 ≤ c ∧ c ≤ 100000
  vars : ∀ v ∈ vars, 0 ≤ v ∧ v < ds.length
  doms : ∀ d ∈ ds, d.length ≤ 4096

theorem IsAt.shape {w : World} {v : Value} {zs : List Int} (h : IsAt w v zs) : ∃ ao cap, v = .slice ao zs.length cap ∧ zs.length ≤ cap ∧ cap ≤ maxLen := SlAt.shape h
theorem GoodL.zip_len {coef vars : List Int} {ds : Ds} (h : GoodL coef vars ds) : (coef.zip vars).length = coef.length := by
  rw [List.length_zip, ← h.len]; omega

def spans (ds : Ds) (ps : Ps) : List Rg := ps.map fun p => (loT p.1 (domOf ds p.2), hiT p.1 (domOf ds p.2))
theorem spans_length (ds : Ds) (ps : Ps) : (spans ds ps).length = ps.length := by simp [spans]

theorem domOf_in (ds : Ds) (v : Int) (h : 0 ≤ v ∧ v < ds.length) : ∃ n : Nat, v = n ∧ ∃ hn : n < ds.length, domOf ds v = ds[n] := by
  obtain ⟨h1, h2⟩ := h
  refine ⟨v.toNat, by omega, by omega, ?_⟩
  unfold domOf
  rw [List.getD_eq_getElem?_getD, List.getElem?_eq_getElem (by omega)]; rfl
theorem IsAt.get {w : World} {ao : Option Addr} {n cap : Nat} {zs : List Int} (h : IsAt w (.slice ao n cap) zs) (k : Nat) (hk : k < zs.length) :
    ∃ b off, ao = some ⟨b, off, none⟩ ∧ zs.length ≤ cap ∧ b < w.heap.size ∧ w.cell? ⟨b, off + k, none⟩ = some (.int .i64 zs[k]) := by
  obtain ⟨b, off, c', he, hc, hb, hx⟩ := IsAt.at h (by omega)
  simp only [Value.slice.injEq] at he
  obtain ⟨rfl, rfl, rfl⟩ := he
  exact ⟨b, off, rfl, hc, hb, hx k hk⟩

/-- the cells that hold term k: coefficient, variable, domain -/
theorem row_facts {w : World} {a0 a1 a2 : Option Addr} {c0 c1 c2 : Nat} {coef vars : List Int} {ds : Ds} (h0 : IsAt w (.slice a0 coef.length c0) coef) (h1 : IsAt w (.slice a1 vars.length c1) vars) (hd : DsAt w (.slice a2 ds.length c2) ds) (hg : GoodL coef vars ds) :
    ∀ k, (hk : k < (coef.zip vars).length) → ∃ (b0 o0 b1 o1 b2 o2 n : Nat) (ao : Option Addr) (cap : Nat) (cf : Int) (d : List Rg),
      (a0 = some ⟨b0, o0, none⟩ ∧ a1 = some ⟨b1, o1, none⟩ ∧ a2 = some ⟨b2, o2, none⟩) ∧ (coef.length ≤ c0 ∧ vars.length ≤ c1 ∧ ds.length ≤ c2) ∧ (b0 < w.heap.size ∧ b1 < w.heap.size ∧ b2 < w.heap.size) ∧ n < ds.length ∧
      w.cell? ⟨b0, o0 + k, none⟩ = some (.int .i64 cf) ∧ w.cell? ⟨b1, o1 + k, none⟩ = some (.int .i64 (n : Int)) ∧ w.cell? ⟨b2, o2 + n, none⟩ = some (.slice ao d.length cap) ∧ RgAt w (.slice ao d.length cap) d ∧
      (coef.zip vars)[k] = (cf, (n : Int)) ∧ domOf ds n = d ∧ d.length ≤ 4096 ∧ -100000 ≤ cf ∧ cf ≤ 100000 := fun k hk => by
  have hkc : k < coef.length := by rw [← hg.zip_len]; exact hk
  have hkv : k < vars.length := by rw [← hg.len]; exact hkc
  obtain ⟨b0, o0, rfl, q0, l0, x0⟩ := h0.get k hkc
  obtain ⟨b1, o1, rfl, q1, l1, x1⟩ := h1.get k hkv
  obtain ⟨n, e1, hn, e2⟩ := domOf_in ds vars[k] (hg.vars _ (List.getElem_mem _))
  obtain ⟨b2, o2, ao, cap, rfl, q2, l2, _, x2, x3⟩ := hd.get n hn
  rw [e1] at x1 e2
  have hc := hg.coefs _ (List.getElem_mem hkc)
  exact ⟨b0, o0, b1, o1, b2, o2, n, ao, cap, coef[k], ds[n], ⟨rfl, rfl, rfl⟩, ⟨q0, q1, q2⟩, ⟨l0, l1, l2⟩, hn, x0, x1, x2, x3, by rw [List.getElem_zip, e1], e2, hg.doms _ (List.getElem_mem _), hc.1, hc.2⟩

theorem loT_bnd (c : Int) (d : List Rg) (hc : -100000 ≤ c ∧ c ≤ 100000) : (-20000000 ≤ loT c d ∧ loT c d ≤ 20000000) ∧ (-20000000 ≤ hiT c d ∧ hiT c d ≤ 20000000) := by
  obtain ⟨b1, b2, b3, b4⟩ := ends_bnd d
  have m1 := mul_bnd (endsL (norm d)).1 c 100000 ⟨b1, b2⟩ hc
  have m2 := mul_bnd (endsL (norm d)).2.1 c 100000 ⟨b3, b4⟩ hc
  unfold loT hiT
  split <;> omega
theorem sum_take_bnd (f : Int × Int → Int) (B : Int) : ∀ (ps : Ps), (∀ p ∈ ps, -B ≤ f p ∧ f p ≤ B) → -(B * ps.length) ≤ (ps.map f).sum ∧ (ps.map f).sum ≤ B * ps.length
  | [], _ => by simp
  | p :: ps, h => by
    have h1 := sum_take_bnd f B ps (fun q hq => h q (by simp [hq]))
    have h2 := h p (by simp)
    simp only [List.map_cons, List.sum_cons, List.length_cons]
    push_cast
    rw [Int.mul_add]
    omega
theorem sums_bnd {coef vars : List Int} {ds : Ds} (hg : GoodL coef vars ds) : ∀ k, (-320000000 ≤ loS ds ((coef.zip vars).take k) ∧ loS ds ((coef.zip vars).take k) ≤ 320000000) ∧ (-320000000 ≤ hiS ds ((coef.zip vars).take k) ∧ hiS ds ((coef.zip vars).take k) ≤ 320000000) := fun k => by
  have hl : ((coef.zip vars).take k).length ≤ 16 := by
    rw [List.length_take, hg.zip_len]; have := hg.le16; omega
  have hc : ∀ p ∈ (coef.zip vars).take k, -100000 ≤ p.1 ∧ p.1 ≤ 100000 := fun p hp => hg.coefs _ (List.of_mem_zip (List.mem_of_mem_take hp : (p.1, p.2) ∈ coef.zip vars)).1
  have h1 := sum_take_bnd (fun p => loT p.1 (domOf ds p.2)) 20000000 _ (fun p hp => (loT_bnd p.1 (domOf ds p.2) (hc p hp)).1)
  have h2 := sum_take_bnd (fun p => hiT p.1 (domOf ds p.2)) 20000000 _ (fun p hp => (loT_bnd p.1 (domOf ds p.2) (hc p hp)).2)
  unfold loS hiS
  constructor <;> constructor <;> omega
theorem sums_step {coef vars : List Int} {ds : Ds} (_ : GoodL coef vars ds) : ∀ k, (hk : k < (coef.zip vars).length) → ∀ cf n d, (coef.zip vars)[k] = (cf, n) → domOf ds n = d →
    loS ds ((coef.zip vars).take (k + 1)) = loS ds ((coef.zip vars).take k) + loT cf d ∧ hiS ds ((coef.zip vars).take (k + 1)) = hiS ds ((coef.zip vars).take k) + hiT cf d ∧
    spans ds ((coef.zip vars).take (k + 1)) = spans ds ((coef.zip vars).take k) ++ [(loT cf d, hiT cf d)] ∧
    (allOk ds ((coef.zip vars).take k) = true → okT d = true → allOk ds ((coef.zip vars).take (k + 1)) = true) ∧ (okT d = false → allOk ds (coef.zip vars) = false) := fun k hk cf n d e1 e2 => by
  subst e2
  rw [List.take_succ_eq_append_getElem hk, e1]
  refine ⟨by simp [loS], by simp [hiS], by simp [spans], fun h1 h2 => ?_, fun h => ?_⟩
  · unfold allOk at *
    rw [List.all_append, h1]; simpa using h2
  · unfold allOk
    rw [List.all_eq_false]
    exact ⟨(coef.zip vars)[k], List.getElem_mem _, by rw [e1]; simpa using h⟩
end Go.Proofs.YtaekdgikgbdnnaaGreat
namespace Go.Proofs.YtaekdgikgbdnnaaGreat
open Go.RowKit

theorem Tryz.infoSpan : (Tryz.prog.info? 198).map (fun i => (i.zero, i.size, i.bytes)) = some (some (.agg #[.int .i64 0, .int .i64 0]), 2, 16) := by kernel_rfl

/-- what parts hands back -/
def RetP (ds : Ds) (ps : Ps) (w : World) (e : Ending) (w' : World) : Prop :=
  Below w.heap.size w w' ∧
    ((allOk ds ps = true ∧ ∃ ao cap, e = .returned (.tuple #[.slice ao ps.length cap, .agg #[.int .i64 (loS ds ps), .int .i64 (hiS ds ps)], .bool true]) ∧ RgAt w' (.slice ao ps.length cap) (spans ds ps)) ∨
     (allOk ds ps = false ∧ e = .returned (.tuple #[.slice none 0 0, .agg #[.int .i64 0, .int .i64 0], .bool false])))

set_option maxRecDepth 100000 in
set_option maxHeartbeats 1600000 in
theorem parts_c (va vb vds : Value) (rel c : Int) (coef vars : List Int) (ds : Ds) (w : World) (h0 : IsAt w va coef) (h1 : IsAt w vb vars) (hd : DsAt w vds ds) (hg : GoodL coef vars ds) :
    Calls Tryz.prog 158 #[.agg #[va, vb, .int .i64 rel, .int .i64 c], vds] w (RetP ds (coef.zip vars) w) := by
  obtain ⟨i0, hi, hz0, hz1, hz2⟩ := info_parts Tryz.infoSpan
  obtain ⟨a0, c0, rfl, _⟩ := IsAt.shape h0
  obtain ⟨a1, c1, rfl, _⟩ := IsAt.shape h1
  obtain ⟨a2, c2, rfl, _⟩ := hd.shape
  have HC := Lib.hid (row_facts h0 h1 hd hg)
  have HB := Lib.hid (sums_bnd hg)
  have HS := Lib.hid (sums_step hg)
  have hn := Lib.hid hg.len
  have hn2 := Lib.hid hg.zip_len
  have hn16 := hg.le16
  clear h0 h1 hd
  generalize hps : coef.zip vars = ps at *
  clear hps
  go_enter Tryz.func158, Tryz.ntmps158
  go_wp2
  have BZ : Hid (Below w.heap.size w (((w.alloc (.cells #[.slice a0 coef.length c0, .slice a1 vars.length c1, .int .i64 rel, .int .i64 c] 65)).alloc (.cells #[.int .i64 0, .int .i64 0] 198)).alloc (.cells #[.int .i64 0, .int .i64 0] 198))) := by
    show Below _ _ _
    go_grown
  go_loopw [7, 16] (fun o s wr => ∃ k : Nat, k ≤ ps.length ∧ s = .int .i64 k ∧ wr.ownsRow (w.heap.size + 1 + 1 + 1) 198 2 o k (cellsR (spans ds (ps.take k))) ∧ Below w.heap.size w wr ∧ Box2 wr (w.heap.size + 1 + 1) (.int .i64 (loS ds (ps.take k))) (.int .i64 (hiS ds (ps.take k))) ∧ Box2 wr (w.heap.size + 1) (.int .i64 0) (.int .i64 0)
      ∧ Hid (wr.cell? ⟨w.heap.size, 0, none⟩ = some (.slice a0 coef.length c0) ∧ wr.cell? ⟨w.heap.size, 1, none⟩ = some (.slice a1 vars.length c1)) ∧ Hid (allOk ds (ps.take k) = true)) (fun _ s _ => ps.length - (intOf s).toNat)
  case atStart => exact ⟨0, by omega, rfl, World.ownsRow_nil _ _ _ _, BZ.out, (by rw [show loS ds (ps.take 0) = 0 by simp [loS], show hiS ds (ps.take 0) = 0 by simp [hiS]]; exact ⟨by go_simp, by go_simp, by go_simp, by go_simp⟩), ⟨by go_simp, by go_simp, by go_simp, by go_simp⟩, Lib.hid ⟨by go_simp, by go_simp⟩, rfl⟩
  case round =>
    obtain ⟨k, hk, rfl, hown, hbel, hbx, hrx, HL, HA⟩ := hrel
    have HB1 := Lib.hid hbel
    have HX := Lib.hid hbx
    have HR := Lib.hid hrx
    have hle := hbel.size
    have hxl := hbx.lt
    clear hbel hbx hrx
    by_cases hlt : k < ps.length
    · have hltv : k < vars.length := by have := hn.out; have := hn2.out; omega
      obtain ⟨b0, o0, b1, o1', b2, o2, n, ao, cap, cf, d, ⟨rfl, rfl, rfl⟩, ⟨l0, l1, l2⟩, ⟨q0, q1, q2⟩, hnn, x0, x1, x2, x3, e1, e2, hdl, hc1, hc2⟩ := HC.out k hlt
      have j1 : (k : Int) < coef.length := by have := hn.out; omega
      have j2 : (k : Int) < vars.length := by omega
      have j3 : (n : Int) < ds.length := by omega
      obtain ⟨t1, t2, t3, t4, t5⟩ := HS.out k hlt cf n d e1 e2
      have T1 := Lib.hid t1; have T2 := Lib.hid t2; have T3 := Lib.hid t3; have T4 := Lib.hid t4; have T5 := Lib.hid t5
      have hb1 := HB.out k
      have hb2 := loT_bnd cf d ⟨hc1, hc2⟩
      obtain ⟨⟨y1, y2⟩, ⟨y3, y4⟩⟩ := hb1
      obtain ⟨⟨y5, y6⟩, ⟨y7, y8⟩⟩ := hb2
      rw [← HB1.out.cell (p := ⟨b0, o0 + k, none⟩) q0] at x0
      rw [← HB1.out.cell (p := ⟨b1, o1' + k, none⟩) q1] at x1
      rw [← HB1.out.cell (p := ⟨b2, o2 + n, none⟩) q2] at x2
      have CP : Hid (∀ W, Below wr.heap.size wr W → Calls Tryz.prog 161 #[.int .i64 cf, .slice ao d.length cap] W fun e w' => e = .returned (.tuple #[.agg #[.int .i64 (loT cf d), .int .i64 (hiT cf d)], .bool (okT d)]) ∧ Below W.heap.size W w') :=
        fun W h => part_c _ cf d W (x3.below (HB1.out.trans (h.mono hle))) hdl ⟨hc1, hc2⟩
      obtain ⟨z0, z1⟩ := HL.out
      clear t1 t2 t3 t4 t5 x3 e1 e2
      generalize loT cf d = tlo at *
      generalize hiT cf d = thi at *
      generalize okT d = ok at *
      generalize spans ds (ps.take k) = O at *
      generalize loS ds (ps.take k) = slo at *
      generalize hiS ds (ps.take k) = shi at *
      have HSW : Hid (∀ W', Below wr.heap.size wr W' → W'.cell? ⟨w.heap.size, 0, none⟩ = some (.slice (some ⟨b0, o0, none⟩) coef.length c0) ∧ W'.cell? ⟨w.heap.size, 1, none⟩ = some (.slice (some ⟨b1, o1', none⟩) vars.length c1) ∧ W'.cell? ⟨b0, o0 + k, none⟩ = some (.int .i64 cf) ∧ W'.cell? ⟨b1, o1' + k, none⟩ = some (.int .i64 (n : Int)) ∧ W'.cell? ⟨b2, o2 + n, none⟩ = some (.slice ao d.length cap)) := fun W' h =>
        ⟨(h.cell (p := ⟨w.heap.size, 0, none⟩) (by simp; omega)).trans z0, (h.cell (p := ⟨w.heap.size, 1, none⟩) (by simp; omega)).trans z1, (h.cell (p := ⟨b0, o0 + k, none⟩) (by simp; omega)).trans x0, (h.cell (p := ⟨b1, o1' + k, none⟩) (by simp; omega)).trans x1, (h.cell (p := ⟨b2, o2 + n, none⟩) (by simp; omega)).trans x2⟩
      go_wp2
      go_upto_region 6 with fail
      go_cut [10, 11] (fun p q wx => ∃ B, p = .pointer (some ⟨B, 0, none⟩) ∧ q = .bool ok ∧ wr.heap.size ≤ B ∧ Box2 wx B (.int .i64 tlo) (.int .i64 thi) ∧ Below wr.heap.size wr wx)
      case first =>
        go_region_held3 (fun W' => W'.cell? ⟨w.heap.size, 0, none⟩ = some (.slice (some ⟨b0, o0, none⟩) coef.length c0) ∧ W'.cell? ⟨w.heap.size, 1, none⟩ = some (.slice (some ⟨b1, o1', none⟩) vars.length c1) ∧ W'.cell? ⟨b0, o0 + k, none⟩ = some (.int .i64 cf) ∧ W'.cell? ⟨b1, o1' + k, none⟩ = some (.int .i64 (n : Int)) ∧ W'.cell? ⟨b2, o2 + n, none⟩ = some (.slice ao d.length cap)) ((refine HSW.out _ ?_; go_grown))
          (first | (go_at_call 161; refine (CP.out _ ?_).mono ?_; (· go_grown); rintro e W1 ⟨rfl, bb⟩; have bw : Below wr.heap.size wr W1 := Below.trans (by go_grown) (bb.mono (by simp)); have bwl := bw.size; (try (obtain ⟨q0, q1, q2, q3⟩ := Box2.later bb; have QB := Lib.hid (Box2.later bb))); clear bb))
        · go_wp2_with fail
          go_meet
          exact ⟨W1.heap.size, rfl, rfl, bwl, Box2.mk' _ _ _ _, by go_grown⟩
        · go_wp2_with fail
          go_meet
          exact ⟨wr.heap.size, rfl, rfl, Nat.le_refl _, (QB.out.set0 _).set1 _, by go_grown⟩
      case rest =>
        obtain ⟨B, rfl, rfl, hB, hBx, hbW⟩ := hcut
        have hbl := hbW.size
        have HX2 := Lib.hid (HX.out.past hbW)
        have HR2 := Lib.hid (HR.out.past hbW)
        have HB2 := Lib.hid (HB1.out.trans (hbW.mono hle))
        have hown2 := own_below hown hbW
        have HW := Lib.hid hbW
        have NE := own_far hown hB
        have PB := Lib.hid hBx
        obtain ⟨p0, p1, _, _⟩ := hBx
        clear hown hbW HSW CP
        cases ok
        · obtain ⟨r0, r1, r2, r3⟩ := HR2.out
          go_wp2
          have s0 := (HR2.out.set0 (.int .i64 0)).c0
          have s1 := ((HR2.out.set0 (.int .i64 0)).set1 (.int .i64 0)).c1
          (try simp only [Exit.inBlock, Exit.then])
          refine bodyPost_ret (v := .tuple #[.slice none 0 0, .agg #[.int .i64 0, .int .i64 0], .bool false]) ?_ rfl ⟨(HB2.out.setCell (p := ⟨w.heap.size + 1, 0, none⟩) (Nat.le_succ _) _).setCell (p := ⟨w.heap.size + 1, 1, none⟩) (Nat.le_succ _) _, .inr ⟨T5.out (by first | rfl | trivial), rfl⟩⟩
          simp [results, Tryz.results158, go_sem, s0, s1]
        · go_wp2_with (at_builtin; refine wpList_appendK rfl (.tmp 39) (.tmp 41) 196 rfl (w.heap.size + 1 + 1 + 1) 198 i0 (.agg #[.int .i64 0, .int .i64 0]) 2 16 Tryz.underlying196 hi hz0 hz1 hz2 rfl (by decide) _ _ _ rfl hown2 _ rfl rfl (one2 rfl rfl) (by omega) (by omega) ?_; intro v1 w1 o1 b1 k1 _; have X3 := Lib.hid (HX2.out.kept k1 (own_ne hown2 (Nat.lt_succ_self _))); have R3 := Lib.hid (HR2.out.kept k1 (own_ne hown2 (Nat.lt_succ_of_lt (Nat.lt_succ_self _)))); have P3 := Lib.hid (PB.out.kept k1 NE); obtain ⟨g0, g1, g2, g3⟩ := X3.out; obtain ⟨m0, m1, _, _⟩ := P3.out; have B3 := Lib.hid b1; have K3 := Lib.hid k1; clear b1 k1)
          have hw1 := B3.out.size
          have own3 := own_setCell (own_setCell o1 (a := ⟨w.heap.size + 1 + 1, 0, none⟩) (Nat.lt_succ_self _) (.int .i64 (slo + tlo))) (a := ⟨w.heap.size + 1 + 1, 1, none⟩) (Nat.lt_succ_self _) (.int .i64 (shi + thi))
          have LW : wc.cell? ⟨w.heap.size, 0, none⟩ = some (.slice (some ⟨b0, o0, none⟩) coef.length c0) ∧ wc.cell? ⟨w.heap.size, 1, none⟩ = some (.slice (some ⟨b1, o1', none⟩) vars.length c1) :=
            ⟨(HW.out.cell (p := ⟨w.heap.size, 0, none⟩) (by simp; omega)).trans z0, (HW.out.cell (p := ⟨w.heap.size, 1, none⟩) (by simp; omega)).trans z1⟩
          refine ⟨⟨k + 1, by omega, by go_num, ?_, ?_, ?_, ?_, ?_, ?_⟩, by simp [intOf]; omega⟩
          · rw [T3.out, cellsR_append]; exact own3
          · exact ((HB2.out.trans (B3.out.mono (by omega))).setCell (p := ⟨w.heap.size + 1 + 1, 0, none⟩) (by simp; omega) _).setCell (p := ⟨w.heap.size + 1 + 1, 1, none⟩) (by simp; omega) _
          · rw [T1.out, T2.out]; exact (X3.out.set0 _).set1 _
          · exact (R3.out.far (a := ⟨w.heap.size + 1 + 1, 0, none⟩) (by simp) _).far (a := ⟨w.heap.size + 1 + 1, 1, none⟩) (by simp) _
          · exact Lib.hid ⟨cell_far (cell_far (K3.out.cell LW.1 (own_ne hown2 (Nat.lt_succ_of_lt (Nat.lt_succ_of_lt (Nat.lt_succ_self _))))) (by simp; omega) _) (by simp; omega) _, cell_far (cell_far (K3.out.cell LW.2 (own_ne hown2 (Nat.lt_succ_of_lt (Nat.lt_succ_of_lt (Nat.lt_succ_self _))))) (by simp; omega) _) (by simp; omega) _⟩
          · exact T4.out HA.out (by first | rfl | trivial)
    · obtain rfl : k = ps.length := by omega
      have hltv : ¬ ps.length < vars.length := by have := hn.out; have := hn2.out; omega
      rw [List.take_length] at hown HX HA
      obtain ⟨oa, oc, rfl, _⟩ := (SlAt.of_own hown).shape
      have e := Lib.hid (spans_length ds ps)
      have own3 := Lib.hid (own_setCell (own_setCell hown (a := ⟨w.heap.size + 1, 0, none⟩) (Nat.lt_succ_of_lt (Nat.lt_succ_self _)) (.int .i64 (loS ds ps))) (a := ⟨w.heap.size + 1, 1, none⟩) (Nat.lt_succ_of_lt (Nat.lt_succ_self _)) (.int .i64 (hiS ds ps)))
      obtain ⟨g0, g1, g2, g3⟩ := HX.out
      obtain ⟨r0, r1, r2, r3⟩ := HR.out
      have s0 := (HR.out.set0 (.int .i64 (loS ds ps))).c0
      have s1 := ((HR.out.set0 (.int .i64 (loS ds ps))).set1 (.int .i64 (hiS ds ps))).c1
      clear hown
      generalize hS : spans ds ps = S at *
      generalize hlo : loS ds ps = slo at *
      generalize hhi : hiS ds ps = shi at *
      have HS3 := Lib.hid hS; have Hlo := Lib.hid hlo; have Hhi := Lib.hid hhi
      clear hS hlo hhi
      go_wp2
      go_region
      all_goals
        (try go_wp2)
        (try simp only [Exit.inBlock, Exit.then])
        refine bodyPost_ret (v := .tuple #[.slice oa ps.length oc, .agg #[.int .i64 slo, .int .i64 shi], .bool true]) ?_ rfl ⟨?_, .inl ⟨HA.out, oa, oc, by rw [Hlo.out, Hhi.out], ?_⟩⟩
        · simp [results, Tryz.results158, go_sem, s0, s1]
        · exact (((HB1.out.setCell (p := ⟨w.heap.size + 1, 0, none⟩) (Nat.le_succ _) _).setCell (p := ⟨w.heap.size + 1, 1, none⟩) (Nat.le_succ _) _)).drew
        · have := SlAt.of_own own3.out
          unfold RgAt
          rw [HS3.out, e.out]
          exact this
end Go.Proofs.YtaekdgikgbdnnaaGreat
namespace Go.Proofs.YtaekdgikgbdnnaaGreat
open Go.RowKit

theorem parts_ok (va vb vds : Value) (rel c : Int) (coef vars : List Int) (ds : Ds) (w : World) (h0 : IsAt w va coef) (h1 : IsAt w vb vars) (hd : DsAt w vds ds) (hg : GoodL coef vars ds) (hA : allOk ds (coef.zip vars) = true) :
    Calls Tryz.prog 158 #[.agg #[va, vb, .int .i64 rel, .int .i64 c], vds] w fun e w' => ∃ ao cap, e = .returned (.tuple #[.slice ao (coef.zip vars).length cap, .agg #[.int .i64 (loS ds (coef.zip vars)), .int .i64 (hiS ds (coef.zip vars))], .bool true]) ∧ RgAt w' (.slice ao (coef.zip vars).length cap) (spans ds (coef.zip vars)) ∧ Below w.heap.size w w' :=
  (parts_c va vb vds rel c coef vars ds w h0 h1 hd hg).mono fun e w' ⟨hb, h⟩ => by
    rcases h with ⟨_, ao, cap, he, hr⟩ | ⟨hn, _⟩
    · exact ⟨ao, cap, he, hr, hb⟩
    · rw [hA] at hn; cases hn
theorem parts_no (va vb vds : Value) (rel c : Int) (coef vars : List Int) (ds : Ds) (w : World) (h0 : IsAt w va coef) (h1 : IsAt w vb vars) (hd : DsAt w vds ds) (hg : GoodL coef vars ds) (hA : allOk ds (coef.zip vars) = false) :
    Calls Tryz.prog 158 #[.agg #[va, vb, .int .i64 rel, .int .i64 c], vds] w fun e w' => e = .returned (.tuple #[.slice none 0 0, .agg #[.int .i64 0, .int .i64 0], .bool false]) ∧ Below w.heap.size w w' :=
  (parts_c va vb vds rel c coef vars ds w h0 h1 hd hg).mono fun e w' ⟨hb, h⟩ => by
    rcases h with ⟨hn, _⟩ | ⟨_, he⟩
    · rw [hA] at hn; cases hn
    · exact ⟨he, hb⟩
/-- a sum's ends, as Sums tells them -/
def sLo (ds : Ds) (ps : Ps) : Int := if allOk ds ps = true then loS ds ps else 0
def sHi (ds : Ds) (ps : Ps) : Int := if allOk ds ps = true then hiS ds ps else 0

set_option maxRecDepth 100000 in
set_option maxHeartbeats 800000 in
theorem sums_c (va vb vds : Value) (rel c : Int) (coef vars : List Int) (ds : Ds) (w : World) (h0 : IsAt w va coef) (h1 : IsAt w vb vars) (hd : DsAt w vds ds) (hg : GoodL coef vars ds) :
    Calls Tryz.prog 162 #[.agg #[va, vb, .int .i64 rel, .int .i64 c], vds] w fun e w' => e = .returned (.tuple #[.int .i64 (sLo ds (coef.zip vars)), .int .i64 (sHi ds (coef.zip vars)), .bool (allOk ds (coef.zip vars))]) ∧ Below w.heap.size w w' := by
  have hZ : Below w.heap.size w (w.alloc (.cells #[va, vb, .int .i64 rel, .int .i64 c] 65)) := (Below.refl _ _).alloc (Nat.le_refl _) _
  obtain ⟨a0, c0, rfl, _⟩ := IsAt.shape h0
  obtain ⟨a1, c1, rfl, _⟩ := IsAt.shape h1
  obtain ⟨a2, c2, rfl, _⟩ := hd.shape
  unfold sLo sHi
  cases hA : allOk ds (coef.zip vars) with
  | true =>
    rw [if_pos rfl, if_pos rfl]
    have CP := Lib.hid (parts_ok _ _ _ rel c coef vars ds _ (h0.below hZ) (h1.below hZ) (hd.below hZ) hg hA)
    have HZ := Lib.hid hZ
    clear h0 h1 hd hg hA hZ
    generalize loS ds (coef.zip vars) = lo at *
    generalize hiS ds (coef.zip vars) = hi at *
    go_enter Tryz.func162, Tryz.ntmps162
    go_wp2_with (go_at_call 158; (with_reducible refine CP.out.mono ?_); rintro e W ⟨ao, cap, rfl, hr, bb⟩; have B1 := Lib.hid (HZ.out.trans (bb.mono HZ.out.size)); clear hr bb)
    go_quiet (fail)
    go_wp2
    go_ret3
    exact ⟨rfl, below_drewN (B1.out.alloc B1.out.size _) _⟩
  | false =>
    rw [if_neg (by simp), if_neg (by simp)]
    have CP := Lib.hid (parts_no _ _ _ rel c coef vars ds _ (h0.below hZ) (h1.below hZ) (hd.below hZ) hg hA)
    have HZ := Lib.hid hZ
    clear h0 h1 hd hg hA hZ
    go_enter Tryz.func162, Tryz.ntmps162
    go_wp2_with (go_at_call 158; (with_reducible refine CP.out.mono ?_); rintro e W ⟨rfl, bb⟩; have B1 := Lib.hid (HZ.out.trans (bb.mono HZ.out.size)); clear bb)
    go_quiet (fail)
    go_wp2
    go_ret3
    exact ⟨rfl, below_drewN (B1.out.alloc B1.out.size _) _⟩
end Go.Proofs.YtaekdgikgbdnnaaGreat
