/-
  coneyref14.Shift, .Scale, walked.
-/
import Derived.Test.YtlihgipfimdlpaaRefC
import Derived.Deep.AppendLies
import Derived.Deep.RegionHeldLaw
namespace Go.Proofs.Ytlihgipfimdlpaa
open Go.RowKit

/-- append of one range at a step of a region that draws -/
theorem step_append2 {P : Program} {ops : Array Oper} {o : Oper} {a : Act} {w : World} {K : Act → World → Prop} {Q : Exit → Act → World → Prop} {E : Prop} (hgd : o.guard = none) (s x : Operand) (t : TypeId)
    (ho : o.op = .call { callee := .builtin .append, args := #[s, x], argTypes := #[t, t] })
    (base : Nat) (e : TypeId) (i : TypeInfo) (z : Value) (bytes : Nat) (ht : P.underlying t = some (.slice e)) (hi : P.info? e = some i) (hz : i.zero = some z)
    (hsize : i.size = 2) (hby : i.bytes = bytes) (hzs : z.cells.size = 2)
    (v : Value) (n : Nat) (xs : List Value) (hs : a.eval s = v) (hown : w.ownsRow base e 2 v n xs)
    (u1 u2 : Value) (g : Nat) (hx : a.eval x = .slice (some ⟨g, 0, none⟩) 1 1) (hc1 : w.cell? ⟨g, 0, none⟩ = some u1) (hc2 : w.cell? ⟨g, 1, none⟩ = some u2) (h1 : u1.oneCell' = true) (h2 : u2.oneCell' = true)
    (hbytes : (n + 1) * bytes ≤ 140737488355328 ∧ n + 1 ≤ 140737488355328) (hbase : base ≤ w.heap.size)
    (h : ∀ g cap w', w'.ownsRow base e 2 (.slice (some ⟨g, 0, none⟩) (n + 1) cap) (n + 1) (xs ++ [u1, u2]) → Below base w w' → K (a.put o.dst (.slice (some ⟨g, 0, none⟩) (n + 1) cap)) w') :
    if Region.wanted o (yielded ops a.tmps) = true then Oper.wp P o a w K Q else E := by
  refine step_append_lies w hgd s x t ho base e i z 2 bytes ht hi hz hsize hby hzs (by decide) v n xs hs hown ⟨g, 0, none⟩ 1 1 [u1, u2] hx rfl ?_ ?_ (by decide) ?_ hbytes.1 hbase _ rfl ?_
  · intro j y hj
    match j, hj with
    | 0, hj => simp at hj; subst hj; simpa [Addr.add] using hc1
    | 1, hj => simp at hj; subst hj; simpa [Addr.add] using hc2
  · intro y hy; simp at hy; rcases hy with rfl | rfl <;> assumption
  · unfold maxLen; omega
  · intro g cap w' r1 r2 _ _
    exact h g cap w' r1 ((Below.refl base w).grown r2 hbase (ownBlock_ge hown))

theorem shL_take (b : Int) (l : List Rg) (k : Nat) (h : k < l.length) : shL b (l.take (k + 1)) = shL b (l.take k) ++ [(l[k].1 + b, l[k].2 + b)] := by
  unfold shL; rw [List.take_succ_eq_append_getElem h, List.map_append]; rfl
theorem scL_take (b : Int) (l : List Rg) (k : Nat) (h : k < l.length) : scL b (l.take (k + 1)) = scL b (l.take k) ++ [(min (l[k].1 * b) (l[k].2 * b), max (l[k].1 * b) (l[k].2 * b))] := by
  unfold scL; rw [List.take_succ_eq_append_getElem h, List.map_append]; rfl
theorem shL_length (b : Int) (l : List Rg) : (shL b l).length = l.length := by simp [shL]
theorem scL_length (b : Int) (l : List Rg) : (scL b l).length = l.length := by simp [scL]

set_option maxRecDepth 100000 in
set_option maxHeartbeats 3200000 in
theorem refShift_c (va : Value) (a : List Rg) (by' : Int) (w : World) (ha : RgAt w va a) (hla : a.length ≤ 4096) :
    Calls Try.prog 14 #[va, .int .i64 by'] w (RetR (shiftL a by') w) := by
  obtain ⟨i0, hi, hz0, hz1, hz2⟩ := info_parts Try.infoRg
  obtain ⟨ao, cap, rfl, _⟩ := ha.shape
  have CA : Hid (Calls Try.prog 18 #[.slice ao a.length cap] w (RetR (norm a) w)) := refNorm_c _ _ w ha hla
  have CN : Hid (∀ v l W, RgAt W v l → l.length ≤ 4096 → Calls Try.prog 18 #[v] W (RetR (norm l) W)) := fun v l W h hl => refNorm_c v l W h hl
  have CC : Hid (∀ W, Calls Try.prog 44 #[.int .i64 by'] W fun e w' => e = .returned (.int .i64 (clampI by' (-10000) 10000)) ∧ W = w') := fun W => cut_c by' W
  have HBD : Hid (∀ p ∈ norm a, -200 ≤ p.1 ∧ p.1 ≤ p.2 ∧ p.2 ≤ 200) := norm_bounds a
  have HE : Hid (norm (shL (clampI by' (-10000) 10000) (norm a)) = shiftL a by') := shift_clamp a by' _ _ (by decide) (by decide)
  have hln : (norm a).length ≤ 201 := norm_len a
  have hcl : -10000 ≤ clampI by' (-10000) 10000 ∧ clampI by' (-10000) 10000 ≤ 10000 := by unfold clampI; omega
  clear ha
  generalize hNA : norm a = na at CA hln HBD HE
  generalize shiftL a by' = res at HE ⊢
  generalize clampI by' (-10000) 10000 = c at *
  obtain ⟨hcl1, hcl2⟩ := hcl
  clear hNA
  go_enter Try.func14, Try.ntmps14
  go_wp2_with (first
    | (go_at_call 18; (with_reducible refine CA.out.mono ?_); rintro e W ⟨a1, c1, rfl, hr1, hb1⟩; have HR1 := Lib.hid hr1; have HW := Lib.hid hb1; clear hr1 hb1))
  go_loopw [6, 7] (fun o s wr => ∃ k : Nat, k ≤ na.length ∧ s = .int .i64 k ∧ wr.ownsRow W.heap.size 28 2 o (shL c (na.take k)).length (cellsR (shL c (na.take k))) ∧ Below W.heap.size W wr) (fun _ s _ => na.length - (intOf s).toNat)
  case atStart => exact ⟨0, by omega, rfl, World.ownsRow_made W #[] 0 (Nat.le_refl _) (by decide) rfl, (Below.refl _ _).alloc (Nat.le_refl _) _⟩
  case round =>
    obtain ⟨k, hk, rfl, hown, hbel⟩ := hrel
    have hle : W.heap.size ≤ wr.heap.size := hbel.size
    have HB := Lib.hid hbel
    clear hbel
    have hol : (shL c (na.take k)).length ≤ 201 := by rw [shL_length, List.length_take]; omega
    by_cases hlt : k < na.length
    · obtain ⟨b, off, c', he, hcap, hbs, hc⟩ := RgAt.at HR1.out (by omega)
      simp only [Value.slice.injEq, true_and] at he
      obtain ⟨rfl, rfl⟩ := he
      obtain ⟨c1, c2⟩ := hc k hlt
      rw [← HB.out.cell (p := ⟨b, off + k * 2, none⟩) hbs] at c1
      rw [← HB.out.cell (p := ⟨b, off + k * 2 + 1, none⟩) hbs] at c2
      have hbd := HBD.out _ (List.getElem_mem hlt)
      have HT := Lib.hid (shL_take c na k hlt)
      obtain ⟨r, hr⟩ : ∃ r, r = na[k] := ⟨_, rfl⟩
      rw [← hr] at c1 c2 HT hbd
      clear hc hr
      obtain ⟨hd1, hd2, hd3⟩ := hbd
      have hbe : b ≠ wr.heap.size := by omega
      generalize shL c (na.take k) = O at *
      go_wp2
      go_region_held_law (fun w' => w'.cell? ⟨b, off + k * 2, none⟩ = some (.int .i64 r.1) ∧ w'.cell? ⟨b, off + k * 2 + 1, none⟩ = some (.int .i64 r.2)) (first | go_keep | exact ⟨(b1.cell (p := ⟨b, off + k * 2, none⟩) hbs).trans (by exact Lib.cell?_alloc_some _ c1), (b1.cell (p := ⟨b, off + k * 2 + 1, none⟩) hbs).trans (by exact Lib.cell?_alloc_some _ c2)⟩) (first
        | (refine step_append2 rfl (.tmp 17) (.tmp 35) 22 rfl W.heap.size 28 i0 (.agg #[.int .i64 0, .int .i64 0]) 16 Try.underlying22 hi hz0 hz1 hz2 rfl _ _ _ rfl (World.ownsRow.drew (hown.alloc _)) (.int .i64 (IntKind.i64.wrap (r.1 + c))) (.int .i64 (IntKind.i64.wrap (r.2 + c))) _ rfl ?_ ?_ rfl rfl ?_ ?_ ?_; (· simp); (· simp); (· omega); (· simp; omega); intro g1 cap1 w1 o1 b1)
        | (go_simp; go_at_call 44; refine (CC.out _).mono ?_; rintro e w' ⟨rfl, rfl⟩))
      have e1 : IntKind.i64.wrap (r.1 + c) = r.1 + c := by simp [IntKind.wrap, IntKind.bits, IntKind.signed]; omega
      have e2 : IntKind.i64.wrap (r.2 + c) = r.2 + c := by simp [IntKind.wrap, IntKind.bits, IntKind.signed]; omega
      rw [e1, e2] at o1
      have HO := Lib.hid o1
      have HB1 := Lib.hid ((below_drewN (HB.out.alloc hle _) 1).trans b1)
      clear o1 b1 e1 e2
      go_wp2
      refine ⟨⟨k + 1, by omega, by go_num, ?_, HB1.out⟩, by simp [intOf]; omega⟩
      rw [HT.out, List.length_append, cellsR_append]
      exact HO.out
    · obtain rfl : k = na.length := by omega
      rw [List.take_length] at hown
      obtain ⟨oa, oc, rfl, _⟩ := (SlAt.of_own hown).shape
      have CF := Lib.hid (CN.out _ _ wr (RgAt.own hown) (by rw [shL_length]; omega))
      rw [HE.out] at CF
      clear hown
      generalize (shL c na).length = m at *
      go_wp2_with (go_at_call 18; (with_reducible refine CF.out.mono ?_); rintro e W2 ⟨a2, c2, rfl, hr2, hb2⟩)
      go_ret
      exact ⟨_, _, rfl, hr2, HW.out.trans ((HB.out.trans (hb2.mono hle)).mono HW.out.size)⟩
end Go.Proofs.Ytlihgipfimdlpaa
