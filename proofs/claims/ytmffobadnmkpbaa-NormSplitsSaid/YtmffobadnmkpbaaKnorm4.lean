/-
  coneylaw10.same and sames: they say yes to equal terms. Walked.
  The law NormGoals, walked.
  The law NormEven, walked.
  norm.Split and the document's: what they hold on to. In plain Lean, over any program.
-/
import Derived.Test.YtmffobadnmkpbaaKtmn1
import Derived.Deep.RegionHeld3
import Derived.Deep.Cut
import Derived.Handy
import Derived.Test.YtmffobadnmkpbaaKnorm3
namespace Go.Proofs.Ytmffobadnmkpbaa
open Go.RowKit

def SameC10 (t : Tm) : Prop := ∀ (va vb : Value) (w : World), TmAt (fun _ => True) w t va → TmAt (fun _ => True) w t vb →
  Calls Try.prog 39 #[tmV t va, tmV t vb] w fun e w' => e = .returned (.bool true) ∧ Below w.heap.size w w'
set_option maxRecDepth 100000 in
set_option maxHeartbeats 1600000 in
theorem sames10_c (va vb : Value) (l : List Tm) (w : World) (ha : TsAt (fun _ => True) w va l) (hb : TsAt (fun _ => True) w vb l) (hC : ∀ t ∈ l, SameC10 t) :
    Calls Try.prog 37 #[va, vb] w fun e w' => e = .returned (.bool true) ∧ Below w.heap.size w w' := by
  obtain ⟨ao, ca, rfl, hl1, hl2⟩ := ha.shape
  obtain ⟨bo, cb, rfl, _, _⟩ := hb.shape
  have hla : l.length ≤ 9223372036854775807 := by unfold maxLen at hl2; omega
  have HA := Lib.hid ha
  have HB := Lib.hid hb
  have HC := Lib.hid hC
  clear ha hb hC hl1 hl2
  go_enter Try.func37, Try.ntmps37
  go_wp2
  go_loopg [5] l.length (fun n i wr => ∃ k : Nat, k ≤ l.length ∧ i = .int .i64 k ∧ Hid (n = l.length - k) ∧ Hid (Below w.heap.size w wr))
  case atStart => exact ⟨0, by omega, rfl, rfl, Below.refl _ _⟩
  case round =>
    obtain ⟨k, hk, rfl, HN, HW⟩ := hrel
    by_cases hlt : k < l.length
    · have hki : (k : Int) < l.length := by omega
      obtain ⟨b1, o1, a1, rfl, -, hcc1, hta⟩ := (HA.out.later HW.out).get k hlt
      obtain ⟨b2, o2, a2, rfl, -, hcc2, htb⟩ := (HB.out.later HW.out).get k hlt
      obtain ⟨p1, q1, rfl, _⟩ := hta.shape
      obtain ⟨p2, q2, rfl, _⟩ := htb.shape
      have hb1 := hcc1.lt
      have hb2 := hcc2.lt
      have CX := Lib.hid (HC.out l[k] (List.getElem_mem hlt))
      generalize l[k] = t at *
      have CC : Hid (∀ W, Below wr.heap.size wr W → Calls Try.prog 39 #[.agg #[.int .i64 t.kind, .int .i64 t.num, .string t.name, .slice p1 t.args.length q1], .agg #[.int .i64 t.kind, .int .i64 t.num, .string t.name, .slice p2 t.args.length q2]] W fun e w' => e = .returned (.bool true) ∧ Below W.heap.size W w') := fun W h => CX.out _ _ W (hta.later h) (htb.later h)
      have KK : Hid (∀ W, Below wr.heap.size wr W → CellsT W b1 (o1 + k * 4) t (.slice p1 t.args.length q1) ∧ CellsT W b2 (o2 + k * 4) t (.slice p2 t.args.length q2)) := fun W h => ⟨hcc1.block (h.block _ hb1), hcc2.block (h.block _ hb2)⟩
      have KS : Hid (∀ W, Below wr.heap.size wr W → W.cell? ⟨b1, o1 + k * 4, none⟩ = some (.int .i64 t.kind) ∧ W.cell? ⟨b1, o1 + k * 4 + 1, none⟩ = some (.int .i64 t.num) ∧ W.cell? ⟨b1, o1 + k * 4 + 2, none⟩ = some (.string t.name) ∧ W.cell? ⟨b1, o1 + k * 4 + 3, none⟩ = some (.slice p1 t.args.length q1) ∧ W.cell? ⟨b2, o2 + k * 4, none⟩ = some (.int .i64 t.kind) ∧ W.cell? ⟨b2, o2 + k * 4 + 1, none⟩ = some (.int .i64 t.num) ∧ W.cell? ⟨b2, o2 + k * 4 + 2, none⟩ = some (.string t.name) ∧ W.cell? ⟨b2, o2 + k * 4 + 3, none⟩ = some (.slice p2 t.args.length q2)) := fun W h => by
        obtain ⟨h1, h2⟩ := KK.out W h
        exact ⟨h1.c0, h1.c1, h1.c2, h1.c3, h2.c0, h2.c1, h2.c2, h2.c3⟩
      have k0 := KS.out _ (Below.refl _ _)
      clear hta htb hcc1 hcc2 CX KK
      go_upto_region 6 with (fail)
      go_region_held3 (fun W => W.cell? ⟨b1, o1 + k * 4, none⟩ = some (.int .i64 t.kind) ∧ W.cell? ⟨b1, o1 + k * 4 + 1, none⟩ = some (.int .i64 t.num) ∧ W.cell? ⟨b1, o1 + k * 4 + 2, none⟩ = some (.string t.name) ∧ W.cell? ⟨b1, o1 + k * 4 + 3, none⟩ = some (.slice p1 t.args.length q1) ∧ W.cell? ⟨b2, o2 + k * 4, none⟩ = some (.int .i64 t.kind) ∧ W.cell? ⟨b2, o2 + k * 4 + 1, none⟩ = some (.int .i64 t.num) ∧ W.cell? ⟨b2, o2 + k * 4 + 2, none⟩ = some (.string t.name) ∧ W.cell? ⟨b2, o2 + k * 4 + 3, none⟩ = some (.slice p2 t.args.length q2))
        ((first | exact KS.out _ P2.out | (refine KS.out _ ?_; go_grown)))
        (first | (go_at_call 39; refine (CC.out _ ?_).mono ?_; (· go_grown); rintro e W2 ⟨rfl, bb⟩; have P2 : Hid (Below wr.heap.size wr W2) := Below.trans (B := wr.heap.size) (by go_grown) (bb.mono (by go_size)); clear bb))
      clear k0
      go_wp2
      go_roundg (l.length - (k + 1))
      case measure => have := HN.out; omega
      case rel => exact ⟨k + 1, by omega, by go_num, rfl, HW.out.trans (P2.out.mono HW.out.size)⟩
    · obtain rfl : k = l.length := by omega
      go_wp2
      go_ret
      exact ⟨rfl, HW.out⟩
set_option maxRecDepth 100000 in
set_option maxHeartbeats 1600000 in
theorem same10_step (t : Tm) (va vb : Value) (w : World) (ha : TmAt (fun _ => True) w t va) (hb : TmAt (fun _ => True) w t vb) (hC : ∀ u ∈ t.args, SameC10 u) :
    Calls Try.prog 39 #[tmV t va, tmV t vb] w fun e w' => e = .returned (.bool true) ∧ Below w.heap.size w w' := by
  obtain ⟨ao, ca, rfl, _, _⟩ := ha.shape
  obtain ⟨bo, cb, rfl, _, _⟩ := hb.shape
  have B2 := Lib.hid (below_two w (.cells #[.int .i64 t.kind, .int .i64 t.num, .string t.name, .slice ao t.args.length ca] 24) (.cells #[.int .i64 t.kind, .int .i64 t.num, .string t.name, .slice bo t.args.length cb] 24))
  have CC : Hid (Calls Try.prog 37 #[.slice ao t.args.length ca, .slice bo t.args.length cb] ((w.alloc (.cells #[.int .i64 t.kind, .int .i64 t.num, .string t.name, .slice ao t.args.length ca] 24)).alloc (.cells #[.int .i64 t.kind, .int .i64 t.num, .string t.name, .slice bo t.args.length cb] 24)) fun e w' => e = .returned (.bool true) ∧ Below w.heap.size w w') :=
    (sames10_c _ _ t.args _ (TsAt.of_tm (ha.later B2.out)) (TsAt.of_tm (hb.later B2.out)) hC).mono fun e w' ⟨h1, h2⟩ => ⟨h1, B2.out.trans (h2.mono B2.out.size)⟩
  unfold tmV
  clear ha hb hC
  have hs : (t.name.toList == t.name.toList) = true := by simp
  generalize t.kind = x0 at *
  generalize t.num = x1 at *
  generalize t.name = x2 at *
  generalize t.args.length = x3 at *
  go_enter Try.func39, Try.ntmps39
  go_wp2_with (first | (go_at_call 37; ((with_reducible refine CC.out.mono ?_); rintro e W2 ⟨rfl, bb⟩; have BB := Lib.hid bb; clear bb)))
  go_ret
  exact ⟨rfl, BB.out⟩
theorem same10_all (t : Tm) : SameC10 t := by
  induction t using Tm.ind with
  | h4 s l ih => exact fun va vb w ha hb => same10_step _ va vb w ha hb ih
  | _ => exact fun va vb w ha hb => same10_step _ va vb w ha hb (by simp [Tm.args])
end Go.Proofs.Ytmffobadnmkpbaa
namespace Go.Proofs.Ytmffobadnmkpbaa
open Go.RowKit

set_option maxRecDepth 100000 in
set_option maxHeartbeats 3200000 in
theorem normGoals_any (s : ByteArray) (w : World) : Calls Try.prog 8 #[.string s] w fun e w' => e = .returned (.bool true) ∧ Below w.heap.size w w' := by
  have CO := Lib.hid (one10_c s w)
  go_enter Try.func8, Try.ntmps8
  go_upto_region 2 with (first | (go_at_call 34; ((with_reducible refine CO.out.mono ?_); rintro e W1 ⟨t, ao, cap, rfl, ht, hf, bb⟩; have HT := Lib.hid ht; have HF := Lib.hid hf; have B1 := Lib.hid bb; clear bb ht hf)))
  obtain ⟨hok, hsz⟩ := HF.out
  obtain ⟨W0, hW0⟩ : ∃ W0, W0 = W1.alloc (.cells #[.int .i64 t.kind, .int .i64 t.num, .string t.name, .slice ao t.args.length cap] 24) := ⟨_, rfl⟩
  have b10 : Below W1.heap.size W1 W0 := by rw [hW0]; exact (Below.refl _ _).alloc (Nat.le_refl _) _
  have B2 := Lib.hid (B1.out.trans (b10.mono B1.out.size))
  have hta : TmAt (fun _ => True) W0 t (.slice ao t.args.length cap) := HT.out.any.later b10
  have KK : Hid (∀ W, Below W0.heap.size W0 W → W.cell? ⟨W1.heap.size, 0, none⟩ = some (.int .i64 t.kind) ∧ W.cell? ⟨W1.heap.size, 1, none⟩ = some (.int .i64 t.num) ∧ W.cell? ⟨W1.heap.size, 2, none⟩ = some (.string t.name) ∧ W.cell? ⟨W1.heap.size, 3, none⟩ = some (.slice ao t.args.length cap)) := fun W h => by
    subst hW0
    exact kk4' ((BoxL.mk' W1 #[.int .i64 t.kind, .int .i64 t.num, .string t.name, .slice ao t.args.length cap] 24).below h (by simp))
  have C1 : Hid (∀ W, Below W0.heap.size W0 W → Calls Try.prog 35 #[.agg #[.int .i64 t.kind, .int .i64 t.num, .string t.name, .slice ao t.args.length cap]] W (RetGoals t W)) := fun W h => goals_c t _ W (hta.later h) hok (by omega)
  have C2 : Hid (∀ W, Below W0.heap.size W0 W → Calls Try.prog 36 #[.agg #[.int .i64 t.kind, .int .i64 t.num, .string t.name, .slice ao t.args.length cap]] W (RetRGoals t W)) := fun W h => rgoals_c t _ W (hta.later h) hok (by omega)
  have k0 := KK.out _ (Below.refl _ _)
  rw [← hW0]
  clear hW0 hta b10
  obtain ⟨x0, x1, x2, x3⟩ := k0
  cases hcl : t.callable with
  | false =>
    have D1 : Hid (∀ W, Below W0.heap.size W0 W → Calls Try.prog 35 #[.agg #[.int .i64 t.kind, .int .i64 t.num, .string t.name, .slice ao t.args.length cap]] W fun e w' => e = .returned (.tuple #[.slice none 0 0, .int .i64 101]) ∧ Below W0.heap.size W0 w') := fun W h => (C1.out W h).mono fun e w' h1 => by simp only [RetGoals, hcl, Bool.false_eq_true, if_false] at h1; exact ⟨h1.1, h.trans (h1.2.mono h.size)⟩
    have D2 : Hid (∀ W, Below W0.heap.size W0 W → Calls Try.prog 36 #[.agg #[.int .i64 t.kind, .int .i64 t.num, .string t.name, .slice ao t.args.length cap]] W fun e w' => e = .returned (.tuple #[.slice none 0 0, .int .i64 101]) ∧ Below W0.heap.size W0 w') := fun W h => (C2.out W h).mono fun e w' h1 => by simp only [RetRGoals, hcl, Bool.false_eq_true, if_false] at h1; exact ⟨h1.1, h.trans (h1.2.mono h.size)⟩
    have CS : Hid (∀ W, Calls Try.prog 37 #[.slice none 0 0, .slice none 0 0] W fun e w' => e = .returned (.bool true) ∧ Below W.heap.size W w') := fun W => sames10_c _ _ [] W ⟨none, 0, rfl, Nat.le_refl _, by simp [maxLen], fun _ => rfl, fun h => by simp at h⟩ ⟨none, 0, rfl, Nat.le_refl _, by simp [maxLen], fun _ => rfl, fun h => by simp at h⟩ (by simp)
    clear C1 C2 hcl
    go_wp2_with (first
      | (go_at_call 35; ((with_reducible refine (D1.out _ (Below.refl _ _)).mono ?_); rintro e W2 ⟨rfl, bb⟩; have P2 := Lib.hid bb; clear x0 x1 x2 x3; obtain ⟨x0, x1, x2, x3⟩ := KK.out _ bb; clear bb))
      | (go_at_call 36; ((with_reducible refine (D2.out _ P2.out).mono ?_); rintro e W3 ⟨rfl, bb⟩; have P3 := Lib.hid bb; clear bb))
      | (go_at_call 37; ((with_reducible refine (CS.out _).mono ?_); rintro e W4 ⟨rfl, bb⟩; have P4 := Lib.hid (P3.out.trans (bb.mono P3.out.size)); clear bb)))
    go_ret
    exact ⟨rfl, B2.out.trans (P4.out.mono B2.out.size)⟩
  | true =>
    have D1 : Hid (∀ W, Below W0.heap.size W0 W → Calls Try.prog 35 #[.agg #[.int .i64 t.kind, .int .i64 t.num, .string t.name, .slice ao t.args.length cap]] W fun e w' => ∃ a c, e = .returned (.tuple #[.slice a t.gather.length c, .int .i64 0]) ∧ TsAt (fun _ => True) w' (.slice a t.gather.length c) t.gather ∧ Below W0.heap.size W0 w') := fun W h => (C1.out W h).mono fun e w' h1 => by
      simp only [RetGoals, hcl, if_true] at h1
      obtain ⟨a, c, Lv, h1, h2, h3, h4⟩ := h1
      have hat := h2.at
      have hln : Lv.length = t.gather.length := by rw [← h3]; simp
      rw [h3, hln] at hat
      rw [hln] at h1
      exact ⟨a, c, h1, hat, h.trans (h4.mono h.size)⟩
    have D2 : Hid (∀ W v, Below W0.heap.size W0 W → TsAt (fun _ => True) W v t.gather → Calls Try.prog 36 #[.agg #[.int .i64 t.kind, .int .i64 t.num, .string t.name, .slice ao t.args.length cap]] W fun e w' => ∃ a c, e = .returned (.tuple #[.slice a t.gather.length c, .int .i64 0]) ∧ TsAt (fun _ => True) w' (.slice a t.gather.length c) t.gather ∧ TsAt (fun _ => True) w' v t.gather ∧ Below W0.heap.size W0 w') := fun W v h hv => (C2.out W h).mono fun e w' h1 => by
      simp only [RetRGoals, hcl, if_true] at h1
      obtain ⟨a, c, h1, h2, h4⟩ := h1
      exact ⟨a, c, h1, h2, hv.later h4, h.trans (h4.mono h.size)⟩
    have CS : Hid (∀ W u v, TsAt (fun _ => True) W u t.gather → TsAt (fun _ => True) W v t.gather → Calls Try.prog 37 #[u, v] W fun e w' => e = .returned (.bool true) ∧ Below W.heap.size W w') := fun W u v h1 h2 => sames10_c _ _ t.gather W h1 h2 (fun t _ => same10_all t)
    clear C1 C2 hcl
    generalize t.gather = G at *
    go_wp2_with (first
      | (go_at_call 35; ((with_reducible refine (D1.out _ (Below.refl _ _)).mono ?_); rintro e W2 ⟨a1, c1, rfl, t1, bb⟩; have P2 := Lib.hid bb; have T1 := Lib.hid t1; clear x0 x1 x2 x3; obtain ⟨x0, x1, x2, x3⟩ := KK.out _ bb; clear bb t1))
      | (go_at_call 36; ((with_reducible refine (D2.out _ _ P2.out T1.out).mono ?_); rintro e W3 ⟨a2, c2, rfl, t2, t1, bb⟩; have P3 := Lib.hid bb; have T2 := Lib.hid t2; have T1' := Lib.hid t1; clear bb t2 t1))
      | (go_at_call 37; ((with_reducible refine (CS.out _ _ _ T1'.out T2.out).mono ?_); rintro e W4 ⟨rfl, bb⟩; have P4 := Lib.hid (P3.out.trans (bb.mono P3.out.size)); clear bb)))
    go_ret
    exact ⟨rfl, B2.out.trans (P4.out.mono B2.out.size)⟩
end Go.Proofs.Ytmffobadnmkpbaa
namespace Go.Proofs.Ytmffobadnmkpbaa
open Go.RowKit

/-- what a goal is -/
def Goal1 (g : Tm) : Prop := g.ok ∧ g.named = true ∧ g.is [44] 2 = false ∧ g.is [116, 114, 117, 101] 0 = false ∧ g.callable = true ∧ g.gather = [g]
theorem lit_ne {t : Tm} {l m : List UInt8} {k : Nat} (h : t.name.toList = l) (hne : (l == m) = false) : t.is m k = false := by
  simp only [Tm.is, h, hne, Bool.false_and]
theorem goals_even (t : Tm) : t.ok → t.callable = true → ∀ g ∈ t.gather, Goal1 g ∧ g.size ≤ t.size + 1 := by
  induction t using Tm.ind with
  | h0 => intro h; cases h
  | h2 z => intro _ h; simp [Tm.callable] at h
  | h1 n =>
    intro hok _ g hg
    simp only [Tm.gather, List.mem_singleton] at hg
    subst hg
    have hn : (callOf (.var n)).name.toList = [99, 97, 108, 108] := by rw [ByteArray.toList_eq]; rfl
    have e1 := lit_ne (t := callOf (.var n)) (m := [44]) (k := 2) hn rfl
    have e2 := lit_ne (t := callOf (.var n)) (m := [116, 114, 117, 101]) (k := 0) hn rfl
    refine ⟨⟨.cmp (by show 4 ≤ 4096; omega) (by simp) (by intro u hu; simp at hu; subst hu; exact hok), rfl, e1, e2, ?_, Tm.gather_self e1 e2 (by simp [callOf, Tm.kind])⟩, by simp [callOf, Tm.size, Tm.sizes]⟩
    rw [Tm.callable_eq]
    simp [callOf, Tm.kind, Tm.args, Tm.callables, Tm.callable]
  | h3 s =>
    intro hok hc g hg
    cases h2 : Tm.is (.atom s) [116, 114, 117, 101] 0 with
    | true => simp [Tm.gather, h2] at hg
    | false =>
      simp only [Tm.gather, h2] at hg
      simp at hg
      subst hg
      have h1 : Tm.is (.atom s) [44] 2 = false := by simp [Tm.is, Tm.args]
      exact ⟨⟨hok, rfl, h1, h2, hc, Tm.gather_self h1 h2 (by simp [Tm.kind])⟩, by omega⟩
  | h4 s l ih =>
    intro hok hc g hg
    cases h1 : Tm.is (.cmp s l) [44] 2 with
    | true =>
      obtain ⟨a, b, hab, hga, _⟩ := Tm.gather_and h1
      simp only [Tm.args] at hab
      subst hab
      have hct : controlT (.cmp s [a, b]) = true := by simp [controlT, h1]
      rw [Tm.callable, hct] at hc
      simp only [Tm.callables, Bool.not_true, Bool.false_or, Bool.and_true, Bool.and_eq_true] at hc
      rw [hga] at hg
      have ha := Tm.ok_args hok
      simp only [Tm.args] at ha
      have hs : (Tm.cmp s [a, b]).size = 1 + (a.size + b.size) := by simp [Tm.size, Tm.sizes]
      rcases List.mem_append.1 hg with hg | hg
      · obtain ⟨h3, h4⟩ := ih a (by simp) (ha a (by simp)) hc.1 g hg
        exact ⟨h3, by omega⟩
      · obtain ⟨h3, h4⟩ := ih b (by simp) (ha b (by simp)) hc.2 g hg
        exact ⟨h3, by omega⟩
    | false =>
      have h2 : Tm.is (.cmp s l) [116, 114, 117, 101] 0 = false := by
        cases hok with
        | cmp _ h0 _ =>
          have : l.length ≠ 0 := by omega
          simp [Tm.is, Tm.args, this]
      rw [Tm.gather_self h1 h2 (by simp [Tm.kind])] at hg
      simp only [List.mem_singleton] at hg
      subst hg
      exact ⟨⟨hok, rfl, h1, h2, hc, Tm.gather_self h1 h2 (by simp [Tm.kind])⟩, by omega⟩
theorem is_cases {t : Tm} (h1 : t.is [44] 2 = false) (h2 : t.is [116, 114, 117, 101] 0 = false) : ((t.name.toList == [44]) = true ∧ ((t.args.length : Int) == 2) = false ∧ (t.name.toList == [116, 114, 117, 101]) = false) ∨ ((t.name.toList == [44]) = false ∧ (t.name.toList == [116, 114, 117, 101]) = true ∧ ((t.args.length : Int) == 0) = false) ∨ ((t.name.toList == [44]) = false ∧ (t.name.toList == [116, 114, 117, 101]) = false) := by
  have hcm : ((t.name.toList == [44]) && ((t.args.length : Int) == 2)) = false := by
    have e : ((t.args.length : Int) == 2) = decide (t.args.length = 2) := by apply Bool.eq_iff_iff.2; simp; omega
    rw [e]; exact h1
  have htr : ((t.name.toList == [116, 114, 117, 101]) && ((t.args.length : Int) == 0)) = false := by
    have e : ((t.args.length : Int) == 0) = decide (t.args.length = 0) := by apply Bool.eq_iff_iff.2; simp
    rw [e]; exact h2
  rcases names_self hcm htr with h | h | h | ⟨e1, e2, _⟩
  · exact .inl h
  · exact .inr (.inl h)
  · exact .inr (.inr h)
  · exfalso
    have e1' : t.name.toList = [44] := by simpa using e1
    have e2' : t.name.toList = [116, 114, 117, 101] := by simpa using e2
    rw [e1'] at e2'
    simp at e2'

set_option maxRecDepth 100000 in
set_option maxHeartbeats 6400000 in
theorem normEven_any (s : ByteArray) (w : World) : Calls Try.prog 9 #[.string s] w fun e w' => e = .returned (.bool true) ∧ Below w.heap.size w w' := by
  have CO := Lib.hid (one10_c s w)
  go_enter Try.func9, Try.ntmps9
  go_upto_region 2 with (first | (go_at_call 34; ((with_reducible refine CO.out.mono ?_); rintro e W1 ⟨t, ao, cap, rfl, ht, hf, bb⟩; have HT := Lib.hid ht; have HF := Lib.hid hf; have B1 := Lib.hid bb; clear bb ht hf)))
  obtain ⟨hok, hsz⟩ := HF.out
  obtain ⟨W0, hW0⟩ : ∃ W0, W0 = W1.alloc (.cells #[.int .i64 t.kind, .int .i64 t.num, .string t.name, .slice ao t.args.length cap] 24) := ⟨_, rfl⟩
  have b10 : Below W1.heap.size W1 W0 := by rw [hW0]; exact (Below.refl _ _).alloc (Nat.le_refl _) _
  have B2 := Lib.hid (B1.out.trans (b10.mono B1.out.size))
  have hta : TmAt (fun _ => True) W0 t (.slice ao t.args.length cap) := HT.out.any.later b10
  have KK : Hid (∀ W, Below W0.heap.size W0 W → W.cell? ⟨W1.heap.size, 0, none⟩ = some (.int .i64 t.kind) ∧ W.cell? ⟨W1.heap.size, 1, none⟩ = some (.int .i64 t.num) ∧ W.cell? ⟨W1.heap.size, 2, none⟩ = some (.string t.name) ∧ W.cell? ⟨W1.heap.size, 3, none⟩ = some (.slice ao t.args.length cap)) := fun W h => by
    subst hW0
    exact kk4' ((BoxL.mk' W1 #[.int .i64 t.kind, .int .i64 t.num, .string t.name, .slice ao t.args.length cap] 24).below h (by simp))
  have C1 : Hid (∀ W, Below W0.heap.size W0 W → Calls Try.prog 35 #[.agg #[.int .i64 t.kind, .int .i64 t.num, .string t.name, .slice ao t.args.length cap]] W (RetGoals t W)) := fun W h => goals_c t _ W (hta.later h) hok (by omega)
  have C2 : Hid (∀ W, Below W0.heap.size W0 W → Calls Try.prog 36 #[.agg #[.int .i64 t.kind, .int .i64 t.num, .string t.name, .slice ao t.args.length cap]] W (RetRGoals t W)) := fun W h => rgoals_c t _ W (hta.later h) hok (by omega)
  have k0 := KK.out _ (Below.refl _ _)
  rw [← hW0]
  clear hW0 hta b10
  obtain ⟨x0, x1, x2, x3⟩ := k0
  cases hcl : t.callable with
  | false =>
    have D1 : Hid (∀ W, Below W0.heap.size W0 W → Calls Try.prog 35 #[.agg #[.int .i64 t.kind, .int .i64 t.num, .string t.name, .slice ao t.args.length cap]] W fun e w' => e = .returned (.tuple #[.slice none 0 0, .int .i64 101]) ∧ Below W0.heap.size W0 w') := fun W h => (C1.out W h).mono fun e w' h1 => by simp only [RetGoals, hcl, Bool.false_eq_true, if_false] at h1; exact ⟨h1.1, h.trans (h1.2.mono h.size)⟩
    have D2 : Hid (∀ W, Below W0.heap.size W0 W → Calls Try.prog 36 #[.agg #[.int .i64 t.kind, .int .i64 t.num, .string t.name, .slice ao t.args.length cap]] W fun e w' => e = .returned (.tuple #[.slice none 0 0, .int .i64 101]) ∧ Below W0.heap.size W0 w') := fun W h => (C2.out W h).mono fun e w' h1 => by simp only [RetRGoals, hcl, Bool.false_eq_true, if_false] at h1; exact ⟨h1.1, h.trans (h1.2.mono h.size)⟩
    clear C1 C2 hcl
    go_wp2_with (first
      | (go_at_call 35; ((with_reducible refine (D1.out _ (Below.refl _ _)).mono ?_); rintro e W2 ⟨rfl, bb⟩; have P2 := Lib.hid bb; clear x0 x1 x2 x3; obtain ⟨x0, x1, x2, x3⟩ := KK.out _ bb; clear bb))
      | (go_at_call 36; ((with_reducible refine (D2.out _ P2.out).mono ?_); rintro e W3 ⟨rfl, bb⟩; have P3 := Lib.hid bb; clear bb)))
    go_loopg [8] 0 (fun n i wr => i = .int .i64 0 ∧ Hid (wr = W3))
    case atStart => exact ⟨rfl, rfl⟩
    case round =>
      obtain ⟨rfl, HW⟩ := hrel
      go_wp2
      go_ret
      exact ⟨rfl, B2.out.trans (by rw [HW.out]; exact P3.out.mono B2.out.size)⟩
  | true =>
    have D1 : Hid (∀ W, Below W0.heap.size W0 W → Calls Try.prog 35 #[.agg #[.int .i64 t.kind, .int .i64 t.num, .string t.name, .slice ao t.args.length cap]] W fun e w' => ∃ a c, e = .returned (.tuple #[.slice a t.gather.length c, .int .i64 0]) ∧ TsAt (fun _ => True) w' (.slice a t.gather.length c) t.gather ∧ Below W0.heap.size W0 w') := fun W h => (C1.out W h).mono fun e w' h1 => by
      simp only [RetGoals, hcl, if_true] at h1
      obtain ⟨a, c, Lv, h1, h2, h3, h4⟩ := h1
      have hat := h2.at
      have hln : Lv.length = t.gather.length := by rw [← h3]; simp
      rw [h3, hln] at hat
      rw [hln] at h1
      exact ⟨a, c, h1, hat, h.trans (h4.mono h.size)⟩
    have D2 : Hid (∀ W v, Below W0.heap.size W0 W → TsAt (fun _ => True) W v t.gather → Calls Try.prog 36 #[.agg #[.int .i64 t.kind, .int .i64 t.num, .string t.name, .slice ao t.args.length cap]] W fun e w' => ∃ a c, e = .returned (.tuple #[.slice a t.gather.length c, .int .i64 0]) ∧ TsAt (fun _ => True) w' v t.gather ∧ Below W0.heap.size W0 w') := fun W v h hv => (C2.out W h).mono fun e w' h1 => by
      simp only [RetRGoals, hcl, if_true] at h1
      obtain ⟨a, c, h1, h2, h4⟩ := h1
      exact ⟨a, c, h1, hv.later h4, h.trans (h4.mono h.size)⟩
    have HE := Lib.hid (goals_even t hok hcl)
    have hgl : t.gather.length ≤ 100000 := by have := t.gather_len; omega
    have HSZ := Lib.hid hsz
    clear C1 C2 hcl
    obtain ⟨G, hG⟩ : ∃ G, G = t.gather := ⟨_, rfl⟩
    rw [← hG] at D1 D2 HE hgl
    clear hG
    go_wp2_with (first
      | (go_at_call 35; ((with_reducible refine (D1.out _ (Below.refl _ _)).mono ?_); rintro e W2 ⟨a1, c1, rfl, t1, bb⟩; have P2 := Lib.hid bb; have T1 := Lib.hid t1; clear x0 x1 x2 x3; obtain ⟨x0, x1, x2, x3⟩ := KK.out _ bb; clear bb t1))
      | (go_at_call 36; ((with_reducible refine (D2.out _ _ P2.out T1.out).mono ?_); rintro e W3 ⟨a2, c2, rfl, t1, bb⟩; have P3 := Lib.hid bb; have T1' := Lib.hid t1; clear bb t1)))
    clear x0 x1 x2 x3 T1 P2
    go_loopg [8] G.length (fun n i wr => ∃ k : Nat, k ≤ G.length ∧ i = .int .i64 k ∧ Hid (n = G.length - k) ∧ Hid (Below W3.heap.size W3 wr))
    case atStart => exact ⟨0, by omega, rfl, rfl, Below.refl _ _⟩
    case round =>
      obtain ⟨k, hk, rfl, HN, HW⟩ := hrel
      by_cases hlt : k < G.length
      · have hki : (k : Int) < G.length := by omega
        obtain ⟨b1, o1, aa, rfl, -, hcc, hta⟩ := (T1'.out.later HW.out).get k hlt
        obtain ⟨p1, q1, rfl, _⟩ := hta.shape
        obtain ⟨hg1, hg2⟩ := HE.out G[k] (List.getElem_mem hlt)
        have hg3 : G[k].size ≤ 100000 := by have := HSZ.out; omega
        generalize G[k] = g at *
        obtain ⟨gok, gn, g44, gtr, gcl, ggt⟩ := hg1
        have hb1 := hcc.lt
        have CN := Lib.hid (fun W => normName_c g p1 q1 W)
        rw [gn] at CN
        have CG : Hid (∀ W, Below wr.heap.size wr W → Calls Try.prog 35 #[.agg #[.int .i64 g.kind, .int .i64 g.num, .string g.name, .slice p1 g.args.length q1]] W fun e w' => ∃ a c, e = .returned (.tuple #[.slice a 1 c, .int .i64 0]) ∧ TsAt (fun _ => True) w' (.slice a 1 c) [g] ∧ Below wr.heap.size wr w') := fun W h => (goals_c g _ W (hta.later h) gok hg3).mono fun e w' h1 => by
          simp only [RetGoals, gcl, if_true] at h1
          obtain ⟨a, c, Lv, h1, h2, h3, h4⟩ := h1
          rw [ggt] at h3
          have hat := h2.at
          have hln : Lv.length = 1 := by have := congrArg List.length h3; simpa using this
          rw [h3, hln] at hat
          rw [hln] at h1
          exact ⟨a, c, h1, hat, h.trans (h4.mono h.size)⟩
        have CS : Hid (∀ W u, Below wr.heap.size wr W → TmAt (fun _ => True) W g u → Calls Try.prog 39 #[tmV g u, .agg #[.int .i64 g.kind, .int .i64 g.num, .string g.name, .slice p1 g.args.length q1]] W fun e w' => e = .returned (.bool true) ∧ Below W.heap.size W w') := fun W u h hu => same10_all g _ _ W hu (hta.later h)
        have KC : Hid (∀ W, Below wr.heap.size wr W → CellsT W b1 (o1 + k * 4) g (.slice p1 g.args.length q1)) := fun W h => hcc.block (h.block _ hb1)
        have D := is_cases g44 gtr
        obtain ⟨x0, x1, x2, x3⟩ := hcc
        clear hta gok gn g44 gtr gcl ggt hg2 hg3
        rcases D with ⟨d1, d2, d3⟩ | ⟨d1, d2, d3⟩ | ⟨d1, d2⟩
        all_goals
          go_upto_region 13 with (first
            | (go_at_call 38; ((with_reducible refine (CN.out _).mono ?_); rintro e W4 ⟨rfl, bb⟩; have P4 := Lib.hid bb; clear x0 x1 x2 x3; obtain ⟨x0, x1, x2, x3⟩ := KC.out _ bb; clear bb))
            | (go_at_call 35; ((with_reducible refine (CG.out _ P4.out).mono ?_); rintro e W5 ⟨a5, c5, rfl, t5, bb⟩; have P5 := Lib.hid bb; have T5 := Lib.hid t5; clear x0 x1 x2 x3; obtain ⟨x0, x1, x2, x3⟩ := KC.out _ bb; clear bb t5)))
        all_goals
          obtain ⟨b5, o5, u5, rfl, -, h5, t5⟩ := T5.out.get 0 (by simp)
          simp only [List.getElem_cons_zero, Nat.zero_mul, Nat.add_zero] at h5 t5
          obtain ⟨p5, q5, rfl, _⟩ := t5.shape
          have TT := Lib.hid t5
          have hb5 := h5.lt
          have KS : Hid (∀ W, Below W5.heap.size W5 W → W.cell? ⟨b5, o5, none⟩ = some (.int .i64 g.kind) ∧ W.cell? ⟨b5, o5 + 1, none⟩ = some (.int .i64 g.num) ∧ W.cell? ⟨b5, o5 + 2, none⟩ = some (.string g.name) ∧ W.cell? ⟨b5, o5 + 3, none⟩ = some (.slice p5 g.args.length q5) ∧ W.cell? ⟨b1, o1 + k * 4, none⟩ = some (.int .i64 g.kind) ∧ W.cell? ⟨b1, o1 + k * 4 + 1, none⟩ = some (.int .i64 g.num) ∧ W.cell? ⟨b1, o1 + k * 4 + 2, none⟩ = some (.string g.name) ∧ W.cell? ⟨b1, o1 + k * 4 + 3, none⟩ = some (.slice p1 g.args.length q1)) := fun W h => by
            have h1 := h5.block (h.block _ hb5)
            have h2 := KC.out W (P5.out.trans (h.mono P5.out.size))
            exact ⟨h1.c0, h1.c1, h1.c2, h1.c3, h2.c0, h2.c1, h2.c2, h2.c3⟩
          have CC : Hid (∀ W, Below W5.heap.size W5 W → Calls Try.prog 39 #[.agg #[.int .i64 g.kind, .int .i64 g.num, .string g.name, .slice p5 g.args.length q5], .agg #[.int .i64 g.kind, .int .i64 g.num, .string g.name, .slice p1 g.args.length q1]] W fun e w' => e = .returned (.bool true) ∧ Below W.heap.size W w') := fun W h => CS.out W _ (P5.out.trans (h.mono P5.out.size)) (TT.out.later h)
          have k0 := KS.out _ (Below.refl _ _)
          clear x0 x1 x2 x3 h5 t5 CS CG CN KC
          go_region_held3 (fun W => W.cell? ⟨b5, o5, none⟩ = some (.int .i64 g.kind) ∧ W.cell? ⟨b5, o5 + 1, none⟩ = some (.int .i64 g.num) ∧ W.cell? ⟨b5, o5 + 2, none⟩ = some (.string g.name) ∧ W.cell? ⟨b5, o5 + 3, none⟩ = some (.slice p5 g.args.length q5) ∧ W.cell? ⟨b1, o1 + k * 4, none⟩ = some (.int .i64 g.kind) ∧ W.cell? ⟨b1, o1 + k * 4 + 1, none⟩ = some (.int .i64 g.num) ∧ W.cell? ⟨b1, o1 + k * 4 + 2, none⟩ = some (.string g.name) ∧ W.cell? ⟨b1, o1 + k * 4 + 3, none⟩ = some (.slice p1 g.args.length q1))
            ((first | exact KS.out _ P6.out | (refine KS.out _ ?_; go_grown)))
            (first | (go_at_call 39; refine (CC.out _ ?_).mono ?_; (· go_grown); rintro e W6 ⟨rfl, bb⟩; have P6 : Hid (Below W5.heap.size W5 W6) := Below.trans (B := W5.heap.size) (by go_grown) (bb.mono (by go_size)); clear bb))
          clear k0
          go_wp2
          go_roundg (G.length - (k + 1))
          case measure => have := HN.out; omega
          case rel => exact ⟨k + 1, by omega, by go_num, rfl, HW.out.trans ((P5.out.trans (P6.out.mono P5.out.size)).mono HW.out.size)⟩
      · obtain rfl : k = G.length := by omega
        go_wp2
        go_ret
        exact ⟨rfl, B2.out.trans ((P3.out.trans (HW.out.mono P3.out.size)).mono B2.out.size)⟩
end Go.Proofs.Ytmffobadnmkpbaa
namespace Go.Proofs.Ytmffobadnmkpbaa
open Go.RowKit

def trueT : Tm := .atom ⟨#[116, 114, 117, 101]⟩
def nthT (t : Tm) (k : Nat) : Tm := t.args.getD k .nil
def headT (t : Tm) : Tm := if t.is [58, 45] 2 then nthT t 0 else t
def bodyT (t : Tm) : Tm := if t.is [58, 45] 2 then nthT t 1 else trueT
def badHead (h : Tm) : Bool := !h.named || controlT h || h.is [58, 45] 1 || h.is [58, 45] 2
/-- head, body, what is wrong -/
def splitT (t : Tm) : Tm × Tm × Int := if badHead (headT t) then (.nil, .nil, 100) else if (bodyT t).callable then (headT t, bodyT t, 0) else (.nil, .nil, 101)
def cells4 (t : Tm) (a : Value) : List Value := [.int .i64 t.kind, .int .i64 t.num, .string t.name, a]
def zero4 : List Value := [.int .i64 0, .int .i64 0, .string ⟨#[]⟩, .slice none 0 0]
/-- what Split holds on to: its results' boxes, head and body -/
structure SB (w W : World) (x y : List Value) (hd bd : Tm) (ha ba : Value) : Prop where
  z1 : BoxL W (w.heap.size + 1) x
  z2 : BoxL W (w.heap.size + 2) y
  hb : BoxL W (w.heap.size + 3) (cells4 hd ha)
  bb : BoxL W (w.heap.size + 4) (cells4 bd ba)
  bel : Below w.heap.size w W
  sz : w.heap.size + 5 ≤ W.heap.size
  th : TmAt (fun b => b < w.heap.size) w hd ha
  tb : TmAt (fun b => b < w.heap.size) w bd ba
theorem SB.below {w W W' : World} {x y : List Value} {hd bd : Tm} {ha ba : Value} (H : SB w W x y hd bd ha ba) (hb : Below W.heap.size W W') : SB w W' x y hd bd ha ba := by
  have hs := H.sz
  have k : ∀ b, b < W.heap.size → W'.heap[b]? = W.heap[b]? := fun b h => hb.block b h
  exact ⟨H.z1.block (k _ (by omega)), H.z2.block (k _ (by omega)), H.hb.block (k _ (by omega)), H.bb.block (k _ (by omega)), H.bel.trans (hb.mono (by omega)), Nat.le_trans H.sz hb.size, H.th, H.tb⟩
theorem boxl_set4 {W : World} {b : Nat} {x0 x1 x2 x3 : Value} (h : BoxL W b [x0, x1, x2, x3]) (y0 y1 y2 y3 : Value) : BoxL ((((W.setCell ⟨b, 0, none⟩ y0).setCell ⟨b, 1, none⟩ y1).setCell ⟨b, 2, none⟩ y2).setCell ⟨b, 3, none⟩ y3) b [y0, y1, y2, y3] :=
  (((h.set 0 (by simp) y0).set 1 (by simp) y1).set 2 (by simp) y2).set 3 (by simp) y3
theorem boxl_far4 {W : World} {b c : Nat} {cs : List Value} (h : BoxL W b cs) (hne : b ≠ c) (y0 y1 y2 y3 : Value) : BoxL ((((W.setCell ⟨c, 0, none⟩ y0).setCell ⟨c, 1, none⟩ y1).setCell ⟨c, 2, none⟩ y2).setCell ⟨c, 3, none⟩ y3) b cs :=
  h.block (heap_set4 c W y0 y1 y2 y3 hne)
theorem below_set4 {B : Nat} {w W : World} (h : Below B w W) {c : Nat} (hc : B ≤ c) (y0 y1 y2 y3 : Value) : Below B w ((((W.setCell ⟨c, 0, none⟩ y0).setCell ⟨c, 1, none⟩ y1).setCell ⟨c, 2, none⟩ y2).setCell ⟨c, 3, none⟩ y3) :=
  (((h.setCell (p := ⟨c, 0, none⟩) hc _).setCell (p := ⟨c, 1, none⟩) hc _).setCell (p := ⟨c, 2, none⟩) hc _).setCell (p := ⟨c, 3, none⟩) hc _
/-- head and body stored anew -/
theorem SB.store {w W : World} {x y : List Value} {hd bd hd' bd' : Tm} {ha ba ha' ba' : Value} (H : SB w W x y hd bd ha ba) (h1 : TmAt (fun b => b < w.heap.size) w hd' ha') (h2 : TmAt (fun b => b < w.heap.size) w bd' ba') :
    SB w ((((((((W.setCell ⟨w.heap.size + 3, 0, none⟩ (.int .i64 hd'.kind)).setCell ⟨w.heap.size + 3, 1, none⟩ (.int .i64 hd'.num)).setCell ⟨w.heap.size + 3, 2, none⟩ (.string hd'.name)).setCell ⟨w.heap.size + 3, 3, none⟩ ha').setCell ⟨w.heap.size + 4, 0, none⟩ (.int .i64 bd'.kind)).setCell ⟨w.heap.size + 4, 1, none⟩ (.int .i64 bd'.num)).setCell ⟨w.heap.size + 4, 2, none⟩ (.string bd'.name)).setCell ⟨w.heap.size + 4, 3, none⟩ ba') x y hd' bd' ha' ba' :=
  ⟨boxl_far4 (boxl_far4 H.z1 (by omega) _ _ _ _) (by omega) _ _ _ _, boxl_far4 (boxl_far4 H.z2 (by omega) _ _ _ _) (by omega) _ _ _ _, boxl_far4 (boxl_set4 H.hb _ _ _ _) (by omega) _ _ _ _, boxl_set4 (boxl_far4 H.bb (by omega) _ _ _ _) _ _ _ _, below_set4 (below_set4 H.bel (by omega) _ _ _ _) (by omega) _ _ _ _, by have := H.sz; simpa using this, h1, h2⟩
/-- the results stored -/
theorem SB.res {w W : World} {x y : List Value} {hd bd : Tm} {ha ba : Value} (H : SB w W x y hd bd ha ba) {a b : Tm} {va vb : Value} (hx : x.length = 4) (hy : y.length = 4) :
    let W' := ((((((((W.setCell ⟨w.heap.size + 1, 0, none⟩ (.int .i64 a.kind)).setCell ⟨w.heap.size + 1, 1, none⟩ (.int .i64 a.num)).setCell ⟨w.heap.size + 1, 2, none⟩ (.string a.name)).setCell ⟨w.heap.size + 1, 3, none⟩ va).setCell ⟨w.heap.size + 2, 0, none⟩ (.int .i64 b.kind)).setCell ⟨w.heap.size + 2, 1, none⟩ (.int .i64 b.num)).setCell ⟨w.heap.size + 2, 2, none⟩ (.string b.name)).setCell ⟨w.heap.size + 2, 3, none⟩ vb)
    BoxL W' (w.heap.size + 1) (cells4 a va) ∧ BoxL W' (w.heap.size + 2) (cells4 b vb) ∧ Below w.heap.size w W' := by
  match x, hx, y, hy, H with
  | [_, _, _, _], _, [_, _, _, _], _, H =>
    exact ⟨boxl_far4 (boxl_set4 H.z1 _ _ _ _) (by omega) _ _ _ _, boxl_set4 (boxl_far4 H.z2 (by omega) _ _ _ _) _ _ _ _, below_set4 (below_set4 H.bel (by omega) _ _ _ _) (by omega) _ _ _ _⟩
theorem SB.start (w : World) (o : Obj) (t : Tm) (a : Value) (T : TypeId) (ht : TmAt (fun b => b < w.heap.size) w t a) :
    SB w (((((w.alloc o).alloc (.cells #[.int .i64 0, .int .i64 0, .string ⟨#[]⟩, .slice none 0 0] T)).alloc (.cells #[.int .i64 0, .int .i64 0, .string ⟨#[]⟩, .slice none 0 0] T)).alloc (.cells #[.int .i64 t.kind, .int .i64 t.num, .string t.name, a] T)).alloc (.cells #[.int .i64 3, .int .i64 0, .string ⟨#[116, 114, 117, 101]⟩, .slice none 0 0] T)) zero4 zero4 t trueT a (.slice none 0 0) := by
  have al : ∀ (W : World) (o : Obj) (B : Nat), B ≤ W.heap.size → Below B W (W.alloc o) := fun W o B h => (Below.refl B W).alloc h o
  have b1 := BoxL.mk' (w.alloc o) #[.int .i64 0, .int .i64 0, .string ⟨#[]⟩, .slice none 0 0] T
  rw [show (w.alloc o).heap.size = w.heap.size + 1 by simp] at b1
  have b2 := BoxL.mk' ((w.alloc o).alloc (.cells #[.int .i64 0, .int .i64 0, .string ⟨#[]⟩, .slice none 0 0] T)) #[.int .i64 0, .int .i64 0, .string ⟨#[]⟩, .slice none 0 0] T
  rw [show ((w.alloc o).alloc (.cells #[.int .i64 0, .int .i64 0, .string ⟨#[]⟩, .slice none 0 0] T)).heap.size = w.heap.size + 2 by simp] at b2
  have b3 := BoxL.mk' (((w.alloc o).alloc (.cells #[.int .i64 0, .int .i64 0, .string ⟨#[]⟩, .slice none 0 0] T)).alloc (.cells #[.int .i64 0, .int .i64 0, .string ⟨#[]⟩, .slice none 0 0] T)) #[.int .i64 t.kind, .int .i64 t.num, .string t.name, a] T
  rw [show (((w.alloc o).alloc (.cells #[.int .i64 0, .int .i64 0, .string ⟨#[]⟩, .slice none 0 0] T)).alloc (.cells #[.int .i64 0, .int .i64 0, .string ⟨#[]⟩, .slice none 0 0] T)).heap.size = w.heap.size + 3 by simp] at b3
  have b4 := BoxL.mk' ((((w.alloc o).alloc (.cells #[.int .i64 0, .int .i64 0, .string ⟨#[]⟩, .slice none 0 0] T)).alloc (.cells #[.int .i64 0, .int .i64 0, .string ⟨#[]⟩, .slice none 0 0] T)).alloc (.cells #[.int .i64 t.kind, .int .i64 t.num, .string t.name, a] T)) #[.int .i64 3, .int .i64 0, .string ⟨#[116, 114, 117, 101]⟩, .slice none 0 0] T
  rw [show ((((w.alloc o).alloc (.cells #[.int .i64 0, .int .i64 0, .string ⟨#[]⟩, .slice none 0 0] T)).alloc (.cells #[.int .i64 0, .int .i64 0, .string ⟨#[]⟩, .slice none 0 0] T)).alloc (.cells #[.int .i64 t.kind, .int .i64 t.num, .string t.name, a] T)).heap.size = w.heap.size + 4 by simp] at b4
  refine ⟨((b1.below (al _ _ (w.heap.size + 2) (by simp)) (by omega)).below (al _ _ (w.heap.size + 2) (by simp)) (by omega)).below (al _ _ (w.heap.size + 2) (by simp)) (by omega), (b2.below (al _ _ (w.heap.size + 3) (by simp)) (by omega)).below (al _ _ (w.heap.size + 3) (by simp)) (by omega), b3.below (al _ _ (w.heap.size + 4) (by simp)) (by omega), b4, ?_, by simp, ht, .leaf rfl⟩
  exact ((((al _ _ _ (Nat.le_refl _)).trans (al _ _ _ (by simp))).trans (al _ _ _ (by simp; omega))).trans (al _ _ _ (by simp; omega))).trans (al _ _ _ (by simp; omega))
/-- what Split tells -/
def RetSplit (t : Tm) (w : World) (e : Ending) (w' : World) : Prop := ∃ pa qa pb qb, e = .returned (.tuple #[.agg #[.int .i64 (splitT t).1.kind, .int .i64 (splitT t).1.num, .string (splitT t).1.name, .slice pa (splitT t).1.args.length qa], .agg #[.int .i64 (splitT t).2.1.kind, .int .i64 (splitT t).2.1.num, .string (splitT t).2.1.name, .slice pb (splitT t).2.1.args.length qb], .int .i64 (splitT t).2.2]) ∧
  TmAt (fun _ => True) w' (splitT t).1 (.slice pa (splitT t).1.args.length qa) ∧ TmAt (fun _ => True) w' (splitT t).2.1 (.slice pb (splitT t).2.1.args.length qb) ∧ Below w.heap.size w w'
end Go.Proofs.Ytmffobadnmkpbaa
