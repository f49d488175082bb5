/-
  rel.of, the four kinds' vars, walked.
  CONSTRAINTS THAT COME IN.
  CONSTRAINTS, their variables: plain; no program.
  The reference's all, Vars of layer 16, walked.
  The reference's Vars of layer 16, walked.
  The four kinds' vars, called through the interface, walked.
  rel.Vars, walked.
-/
import Derived.Test.YtaekdgikgbdnnaaGreatKlin2
import Derived.Test.YtaekdgikgbdnnaaGreatKlin1
import Derived.Test.YtaekdgikgbdnnaaGreatKdom1
import Derived.Test.YtaekdgikgbdnnaaGreatKlib1
import Derived.Deep.QuietTactic
import Derived.BigQuiet
namespace Go.Proofs.YtaekdgikgbdnnaaGreat
open Go.RowKit

/-- a constraint, as it lies (nested structs lie flat) -/
def propV (kind : Int) (va vb : Value) (rel c x y z : Int) (vv : Value) : Value := .agg #[.int .i64 kind, va, vb, .int .i64 rel, .int .i64 c, .int .i64 x, .int .i64 y, .int .i64 z, vv]
/-- the constraint of its kind -/
def ofV (kind : Int) (va vb : Value) (rel c x y z : Int) (vv : Value) : Value :=
  if kind = 1 then .iface 124 (.agg #[va, vb, .int .i64 rel, .int .i64 c]) else if kind = 2 then .iface 141 (.agg #[.int .i64 x, .int .i64 y, .int .i64 z])
  else if kind = 3 then .iface 128 (.agg #[vv]) else if kind = 4 then .iface 126 (.agg #[.int .i64 x, va, vb, .int .i64 rel, .int .i64 c]) else .nilIface

set_option maxRecDepth 100000 in
set_option maxHeartbeats 800000 in
theorem of_c (kind : Int) (a0 a1 a2 : Option Addr) (n0 n1 n2 c0 c1 c2 : Nat) (rel c x y z : Int) (w : World) :
    Calls Tryz.prog 84 #[propV kind (.slice a0 n0 c0) (.slice a1 n1 c1) rel c x y z (.slice a2 n2 c2)] w fun e w' => e = .returned (ofV kind (.slice a0 n0 c0) (.slice a1 n1 c1) rel c x y z (.slice a2 n2 c2)) ∧ Below w.heap.size w w' := by
  unfold propV ofV
  by_cases h1 : kind = 1
  · subst h1
    go_enter Tryz.func84, Tryz.ntmps84
    go_wp2
    go_ret
    exact ⟨rfl, (Below.refl _ _).alloc (Nat.le_refl _) _⟩
  by_cases h2 : kind = 2
  · subst h2
    go_enter Tryz.func84, Tryz.ntmps84
    go_wp2
    go_ret
    exact ⟨rfl, (Below.refl _ _).alloc (Nat.le_refl _) _⟩
  by_cases h3 : kind = 3
  · subst h3
    go_enter Tryz.func84, Tryz.ntmps84
    go_wp2
    go_ret
    exact ⟨rfl, (Below.refl _ _).alloc (Nat.le_refl _) _⟩
  by_cases h4 : kind = 4
  · subst h4
    go_enter Tryz.func84, Tryz.ntmps84
    go_wp2
    go_ret
    exact ⟨rfl, (Below.refl _ _).alloc (Nat.le_refl _) _⟩
  · have g1 : (kind == 1) = false := beq_eq_false_iff_ne.2 h1
    have g2 : (kind == 2) = false := beq_eq_false_iff_ne.2 h2
    have g3 : (kind == 3) = false := beq_eq_false_iff_ne.2 h3
    have g4 : (kind == 4) = false := beq_eq_false_iff_ne.2 h4
    rw [if_neg h1, if_neg h2, if_neg h3, if_neg h4]
    go_enter Tryz.func84, Tryz.ntmps84
    go_wp2
    go_ret
    exact ⟨rfl, (Below.refl _ _).alloc (Nat.le_refl _) _⟩
end Go.Proofs.YtaekdgikgbdnnaaGreat
namespace Go.Proofs.YtaekdgikgbdnnaaGreat
open Go.RowKit Go.ChangeShapes Go.WideShapes Go.ChangeAt

theorem cellsProp : Tryz.prog.cellsOf 67 = 9 := by kernel_rfl
theorem cellsLinP : Tryz.prog.cellsOf 65 = 4 := by kernel_rfl
theorem cellsIntP : Tryz.prog.cellsOf 3 = 1 := by kernel_rfl
theorem cellsIsP : Tryz.prog.cellsOf 26 = 1 := by kernel_rfl
/-- the nine cells of a constraint -/
theorem open_propL {H : Type} {enc : TypeId × Value → H} {w : World} {sp : Nat → Bool} {held : Bool} {fuel : Nat} {c0 c1 c2 c3 c4 c5 c6 c7 c8 : Value} {y : DataW H × List MemPlace}
    (h : DataW.trod enc Tryz.prog w 0 sp held fuel 67 [c0, c1, c2, c3, c4, c5, c6, c7, c8] = some y) :
    ∃ kind rel c x y z : Int, ∃ coef vars vs : List Int, c0 = .int .i64 kind ∧ c3 = .int .i64 rel ∧ c4 = .int .i64 c ∧ c5 = .int .i64 x ∧ c6 = .int .i64 y ∧ c7 = .int .i64 z ∧ IsAt w c1 coef ∧ IsAt w c2 vars ∧ IsAt w c8 vs := by
  obtain ⟨xs, n, _, _, _, hlen, hF⟩ := DataW.trod_struct Tryz.underlying67 h
  match xs, hlen with
  | [y0, y1, y2, y3, y4, y5], _ =>
    have g0 := hF 0 _ rfl
    have g1 := hF 1 _ rfl
    have g2 := hF 2 _ rfl
    have g3 := hF 3 _ rfl
    have g4 := hF 4 _ rfl
    have g5 := hF 5 _ rfl
    simp [cellsIntP, cellsLinP, cellsIsP] at g0 g1 g2 g3 g4 g5
    obtain ⟨k, e0, _, _⟩ := DataW.trod_int Tryz.underlying3 g0
    obtain ⟨x, e2, _, _⟩ := DataW.trod_int Tryz.underlying3 g2
    obtain ⟨yy, e3, _, _⟩ := DataW.trod_int Tryz.underlying3 g3
    obtain ⟨z, e4, _, _⟩ := DataW.trod_int Tryz.underlying3 g4
    obtain ⟨vs, i5, _⟩ := open_isL g5
    obtain ⟨z0, z1, z2, z3, m, _, _, h0, h1, h2, h3⟩ := Joins.trod_struct4 Tryz.underlying65 g1
    simp [cellsIntP, cellsIsP] at h0 h1 h2 h3
    obtain ⟨coef, i0, _⟩ := open_isL h0
    obtain ⟨vars, i1, _⟩ := open_isL h1
    obtain ⟨r, e5, _, _⟩ := DataW.trod_int Tryz.underlying3 h2
    obtain ⟨cc, e6, _, _⟩ := DataW.trod_int Tryz.underlying3 h3
    simp at e0 e2 e3 e4 e5 e6
    exact ⟨k, r, cc, x, yy, z, coef, vars, vs, e0, e5, e6, e2, e3, e4, i0, i1, i5⟩
end Go.Proofs.YtaekdgikgbdnnaaGreat
namespace Go.Proofs.YtaekdgikgbdnnaaGreat

/-- a constraint's variables, as they stand there -/
def allL (kind : Int) (vars : List Int) (x y z : Int) (vs : List Int) : List Int := if kind = 1 then vars else if kind = 2 then [x, y, z] else if kind = 3 then vs else if kind = 4 then x :: vars else []
/-- each once, where it comes first -/
def uniq (acc : List Int) (v : Int) : List Int := if acc.contains v then acc else acc ++ [v]
def uniqL (l : List Int) : List Int := l.foldl uniq []
theorem uniqL_snoc (l : List Int) (v : Int) : uniqL (l ++ [v]) = uniq (uniqL l) v := by unfold uniqL; rw [List.foldl_append]; rfl
theorem uniqL_len (l : List Int) : (uniqL l).length ≤ l.length := by
  suffices h : ∀ (l acc : List Int), (l.foldl uniq acc).length ≤ acc.length + l.length by simpa [uniqL] using h l []
  intro l
  induction l with
  | nil => intro acc; simp
  | cons v l ih =>
    intro acc
    have h1 := ih (uniq acc v)
    have h2 : (uniq acc v).length ≤ acc.length + 1 := by unfold uniq; split <;> simp
    simp only [List.foldl_cons, List.length_cons]; omega

structure PL where
  kind : Int
  rel : Int
  c : Int
  x : Int
  y : Int
  z : Int
  coef : List Int
  vars : List Int
  vs : List Int
end Go.Proofs.YtaekdgikgbdnnaaGreat
namespace Go.Proofs.YtaekdgikgbdnnaaGreat
open Go.RowKit

theorem Tryz.infoIntR : (Tryz.prog.info? 3).map (fun i => (i.zero, i.size, i.bytes)) = some (some (.int .i64 0), 1, 8) := by kernel_rfl
theorem own_made1 (w : World) (o : Obj) : ((w.alloc o).alloc (.cells #[] 3)).ownsRow w.heap.size 3 1 (.slice (some ⟨w.heap.size + 1, 0, none⟩) 0 0) 0 [] := by
  have h := World.ownsRow_made (w.alloc o) #[] 0 (base := w.heap.size) (e := 3) (size := 1) (by simp) (by decide) rfl
  rw [show (w.alloc o).heap.size = w.heap.size + 1 by simp] at h
  exact h
theorem own_made1' (w : World) (o : Obj) : ((w.alloc o).alloc (.cells #[] 3)).ownsRow (w.heap.size + 1) 3 1 (.slice (some ⟨w.heap.size + 1, 0, none⟩) 0 0) 0 [] := by
  have h := World.ownsRow_made (w.alloc o) #[] 0 (base := w.heap.size + 1) (e := 3) (size := 1) (by simp) (by decide) rfl
  rw [show (w.alloc o).heap.size = w.heap.size + 1 by simp] at h
  exact h
theorem isAt_litn (w : World) (zs : List Int) (T : TypeId) (hl : zs.length ≤ 4096) : IsAt (w.alloc (.cells (zs.map (Value.int .i64)).toArray T)) (.slice (some ⟨w.heap.size, 0, none⟩) zs.length zs.length) zs := by
  have h := World.ownsRow_lit (base := 0) w (zs.map (Value.int .i64)).toArray zs.length (e := T) (size := 1) (Nat.zero_le _) (by unfold maxLen; omega) (by simp)
  exact SlAt.of_own (by simpa using h)
theorem one_ints (zs : List Int) : ∀ u ∈ zs.map (Value.int .i64), u.oneCell' = true := by
  intro u hu
  obtain ⟨z, _, rfl⟩ := List.mem_map.1 hu
  rfl

set_option maxRecDepth 100000 in
set_option maxHeartbeats 1600000 in
theorem all_c (kind : Int) (va vb vv : Value) (rel c x y z : Int) (coef vars vs : List Int) (w : World) (h0 : IsAt w va coef) (h1 : IsAt w vb vars) (h2 : IsAt w vv vs) (hl1 : vars.length ≤ 4096) (hl2 : vs.length ≤ 4096) :
    Calls Tryz.prog 59 #[propV kind va vb rel c x y z vv] w fun e w' => ∃ ao cap, e = .returned (.slice ao (allL kind vars x y z vs).length cap) ∧ IsAt w' (.slice ao (allL kind vars x y z vs).length cap) (allL kind vars x y z vs) ∧ Below w.heap.size w w' := by
  obtain ⟨i0, hi, hz0, hz1, hz2⟩ := info_parts Tryz.infoIntR
  obtain ⟨a0, c0, rfl, _⟩ := SlAt.shape h0
  obtain ⟨a1, c1, rfl, _⟩ := SlAt.shape h1
  obtain ⟨a2, c2, rfl, _⟩ := SlAt.shape h2
  have HM := Lib.hid (own_made1 w)
  have HB : Hid (∀ o o2, Below w.heap.size w ((w.alloc o).alloc o2)) := fun o o2 => ((Below.refl _ _).alloc (Nat.le_refl _) o).alloc (by simp) o2
  have H1 := Lib.hid h1
  have H2 := Lib.hid h2
  clear h0 h1 h2
  unfold propV allL
  by_cases k1 : kind = 1
  · subst k1
    simp only [if_true]
    go_enter Tryz.func59, Tryz.ntmps59
    go_wp2_with (at_builtin; refine wpList_append_sl rfl (.tmp 9) (.tmp 12) 26 rfl w.heap.size 3 i0 (.int .i64 0) 1 8 Tryz.underlying26 hi hz0 hz1 hz2 rfl (by decide) _ 0 [] rfl (HM.out _) _ vars.length _ rfl (H1.out.below (HB.out _ _)) (one_ints _) (by omega) (by simp; omega) ?_; intro v1 w1 o1 b1 _)
    obtain ⟨oa, oc, rfl, _⟩ := (SlAt.of_own o1).shape
    have hb := Lib.hid ((HB.out _ _).trans b1)
    have hs := Lib.hid (SlAt.of_own o1)
    rw [Nat.zero_add, List.nil_append] at hs
    rw [Nat.zero_add]
    clear o1 b1
    go_ret
    exact ⟨_, _, rfl, hs.out, hb.out⟩
  by_cases k2 : kind = 2
  · subst k2
    simp only [show ((2 : Int) = 1) = False by simp, if_true, if_false]
    have HX : Hid (∀ W : World, IsAt (W.alloc (.cells #[.int .i64 x, .int .i64 y, .int .i64 z] 3)) (.slice (some ⟨W.heap.size, 0, none⟩) 3 3) [x, y, z]) := fun W => isAt_litn W [x, y, z] 3 (by simp)
    go_enter Tryz.func59, Tryz.ntmps59
    have HX2 : Hid (∀ o o2 : Obj, IsAt (((w.alloc o).alloc o2).alloc (.cells #[.int .i64 x, .int .i64 y, .int .i64 z] 3)) (.slice (some ⟨w.heap.size + 1 + 1, 0, none⟩) 3 3) [x, y, z]) := fun o o2 => by
      have h := HX.out ((w.alloc o).alloc o2)
      rw [show ((w.alloc o).alloc o2).heap.size = w.heap.size + 1 + 1 by simp] at h
      exact h
    go_wp2_with (at_builtin; refine wpList_append_sl rfl (.tmp 16) (.tmp 23) 26 rfl w.heap.size 3 i0 (.int .i64 0) 1 8 Tryz.underlying26 hi hz0 hz1 hz2 rfl (by decide) _ 0 [] rfl ((HM.out _).alloc _) _ 3 _ rfl (HX2.out _ _) (one_ints _) (by omega) (by simp; omega) ?_; intro v1 w1 o1 b1 _)
    obtain ⟨oa, oc, rfl, _⟩ := (SlAt.of_own o1).shape
    have hb := Lib.hid (((HB.out _ _).alloc (by simp; omega) _).trans b1)
    have hs := Lib.hid (SlAt.of_own o1)
    rw [Nat.zero_add, List.nil_append] at hs
    rw [Nat.zero_add]
    clear o1 b1
    go_ret
    exact ⟨_, _, rfl, hs.out, hb.out⟩
  by_cases k3 : kind = 3
  · subst k3
    simp only [show ((3 : Int) = 1) = False by simp, show ((3 : Int) = 2) = False by simp, if_true, if_false]
    go_enter Tryz.func59, Tryz.ntmps59
    go_wp2_with (at_builtin; refine wpList_append_sl rfl (.tmp 27) (.tmp 29) 26 rfl w.heap.size 3 i0 (.int .i64 0) 1 8 Tryz.underlying26 hi hz0 hz1 hz2 rfl (by decide) _ 0 [] rfl (HM.out _) _ vs.length _ rfl (H2.out.below (HB.out _ _)) (one_ints _) (by omega) (by simp; omega) ?_; intro v1 w1 o1 b1 _)
    obtain ⟨oa, oc, rfl, _⟩ := (SlAt.of_own o1).shape
    have hb := Lib.hid ((HB.out _ _).trans b1)
    have hs := Lib.hid (SlAt.of_own o1)
    rw [Nat.zero_add, List.nil_append] at hs
    rw [Nat.zero_add]
    clear o1 b1
    go_ret
    exact ⟨_, _, rfl, hs.out, hb.out⟩
  by_cases k4 : kind = 4
  · subst k4
    simp only [show ((4 : Int) = 1) = False by simp, show ((4 : Int) = 2) = False by simp, show ((4 : Int) = 3) = False by simp, if_true, if_false]
    have HX2 : Hid (∀ o o2 : Obj, IsAt (((w.alloc o).alloc o2).alloc (.cells #[.int .i64 x] 3)) (.slice (some ⟨w.heap.size + 1 + 1, 0, none⟩) 1 1) [x]) := fun o o2 => by
      have h := isAt_litn ((w.alloc o).alloc o2) [x] 3 (by simp)
      rw [show ((w.alloc o).alloc o2).heap.size = w.heap.size + 1 + 1 by simp] at h
      exact h
    have HB4 := Lib.hid (BoxL.mk' w #[.int .i64 4, .slice a0 coef.length c0, .slice a1 vars.length c1, .int .i64 rel, .int .i64 c, .int .i64 x, .int .i64 y, .int .i64 z, .slice a2 vs.length c2] 67)
    go_enter Tryz.func59, Tryz.ntmps59
    go_wp2_with (first
      | (at_builtin; refine wpList_append_sl rfl (.tmp 33) (.tmp 36) 26 rfl (w.heap.size + 1) 3 i0 (.int .i64 0) 1 8 Tryz.underlying26 hi hz0 hz1 hz2 rfl (by decide) _ 0 [] rfl ((own_made1' w _).alloc _) _ 1 _ rfl (HX2.out _ _) (one_ints [x]) (by omega) (by first | (simp; done) | (simp; omega)) ?_; intro v1 w1 o1 b1 _; have q1 := ((HB4.out.below (((Below.refl (w.heap.size + 1) (w.alloc (.cells #[.int .i64 4, .slice a0 coef.length c0, .slice a1 vars.length c1, .int .i64 rel, .int .i64 c, .int .i64 x, .int .i64 y, .int .i64 z, .slice a2 vs.length c2] 67))).alloc (by simp) (.cells #[] 3)).alloc (by simp) (.cells #[.int .i64 x] 3)) (Nat.lt_succ_self _)).below b1 (Nat.lt_succ_self _)).get 2 rfl; have q2 := q1.1; clear q1)
      | (at_builtin; refine wpList_append_sl rfl (.tmp 38) (.tmp 41) 26 rfl (w.heap.size + 1) 3 i0 (.int .i64 0) 1 8 Tryz.underlying26 hi hz0 hz1 hz2 rfl (by decide) _ (0 + 1) _ rfl o1 _ vars.length _ rfl (H1.out.below (((HB.out _ _).alloc (by simp; omega) _).trans (b1.mono (Nat.le_succ _)))) (one_ints _) (by omega) (by have := b1.size; simp at this; omega) ?_; intro v2 w2 o2 b2 _))
    obtain ⟨oa, oc, rfl, _⟩ := (SlAt.of_own o2).shape
    have hb := Lib.hid ((((HB.out _ _).alloc (by simp; omega) _).trans (b1.mono (Nat.le_succ _))).trans (b2.mono (Nat.le_succ _)))
    have hs := Lib.hid (SlAt.of_own o2)
    have e0 : 0 + 1 + vars.length = (x :: vars).length := by simp; omega
    rw [e0] at hs ⊢
    clear o1 b1 o2 b2 e0
    go_ret
    exact ⟨_, _, rfl, hs.out, hb.out⟩
  · have g1 : (kind == 1) = false := beq_eq_false_iff_ne.2 k1
    have g2 : (kind == 2) = false := beq_eq_false_iff_ne.2 k2
    have g3 : (kind == 3) = false := beq_eq_false_iff_ne.2 k3
    have g4 : (kind == 4) = false := beq_eq_false_iff_ne.2 k4
    rw [if_neg k1, if_neg k2, if_neg k3, if_neg k4]
    clear k1 k2 k3 k4
    go_enter Tryz.func59, Tryz.ntmps59
    go_wp2
    go_ret
    exact ⟨_, _, rfl, SlAt.of_own (HM.out _), HB.out _ _⟩
end Go.Proofs.YtaekdgikgbdnnaaGreat
namespace Go.Proofs.YtaekdgikgbdnnaaGreat
open Go.RowKit

theorem IsAt.getR {w : World} {ao : Option Addr} {n cap : Nat} {zs : List Int} (h : IsAt w (.slice ao n cap) zs) (k : Nat) (hk : k < zs.length) :
    ∃ b off, ao = some ⟨b, off, none⟩ ∧ zs.length ≤ cap ∧ b < w.heap.size ∧ w.cell? ⟨b, off + k, none⟩ = some (.int .i64 zs[k]) := by
  obtain ⟨b, off, c', he, hc, hb, hx⟩ := IsAt.at h (by omega)
  simp only [Value.slice.injEq] at he
  obtain ⟨rfl, rfl, rfl⟩ := he
  exact ⟨b, off, rfl, hc, hb, hx k hk⟩
end Go.Proofs.YtaekdgikgbdnnaaGreat
namespace Go.Proofs.YtaekdgikgbdnnaaGreat
open Go.RowKit

set_option maxRecDepth 100000 in
theorem varsLin_c (a0 a1 : Option Addr) (n0 n1 c0 c1 : Nat) (rel c : Int) (w : World) :
    Calls Tryz.prog 156 #[.agg #[.slice a0 n0 c0, .slice a1 n1 c1, .int .i64 rel, .int .i64 c]] w fun e w' => e = .returned (.slice a1 n1 c1) ∧ Below w.heap.size w w' := by
  go_enter Tryz.func156, Tryz.ntmps156
  go_wp2
  go_ret
  exact ⟨rfl, (Below.refl _ _).alloc (Nat.le_refl _) _⟩
set_option maxRecDepth 100000 in
theorem varsDiff_c (a1 : Option Addr) (n1 c1 : Nat) (w : World) :
    Calls Tryz.prog 180 #[.agg #[.slice a1 n1 c1]] w fun e w' => e = .returned (.slice a1 n1 c1) ∧ Below w.heap.size w w' := by
  go_enter Tryz.func180, Tryz.ntmps180
  go_wp2
  go_ret
  exact ⟨rfl, by first | exact (Below.refl _ _).alloc (Nat.le_refl _) _ | exact Below.refl _ _⟩
set_option maxRecDepth 100000 in
theorem varsProd_c (x y z : Int) (w : World) :
    Calls Tryz.prog 183 #[.agg #[.int .i64 x, .int .i64 y, .int .i64 z]] w fun e w' => ∃ ao cap, e = .returned (.slice ao 3 cap) ∧ IsAt w' (.slice ao 3 cap) [x, y, z] ∧ Below w.heap.size w w' := by
  go_enter Tryz.func183, Tryz.ntmps183
  go_wp2
  go_ret
  refine ⟨some ⟨w.heap.size + 1, 0, none⟩, 3, rfl, ?_, ((Below.refl _ _).alloc (Nat.le_refl _) _).alloc (by simp) _⟩
  have h := World.ownsRow_lit (base := 0) (w.alloc (.cells #[.int .i64 x, .int .i64 y, .int .i64 z] 141)) #[.int .i64 x, .int .i64 y, .int .i64 z] 3 (e := 3) (size := 1) (Nat.zero_le _) (by simp [maxLen]) rfl
  rw [show (w.alloc (.cells #[.int .i64 x, .int .i64 y, .int .i64 z] 141)).heap.size = w.heap.size + 1 by simp] at h
  exact SlAt.of_own h
end Go.Proofs.YtaekdgikgbdnnaaGreat
namespace Go.Proofs.YtaekdgikgbdnnaaGreat
open Go.RowKit

set_option maxRecDepth 100000 in
set_option maxHeartbeats 800000 in
theorem varsReif_c (x rel c : Int) (a0 : Option Addr) (n0 c0 : Nat) (vb : Value) (vars : List Int) (w : World) (h1 : IsAt w vb vars) (hl1 : vars.length ≤ 4096) :
    Calls Tryz.prog 171 #[.agg #[.int .i64 x, .slice a0 n0 c0, vb, .int .i64 rel, .int .i64 c]] w fun e w' => ∃ ao cap, e = .returned (.slice ao (x :: vars).length cap) ∧ IsAt w' (.slice ao (x :: vars).length cap) (x :: vars) ∧ Below w.heap.size w w' := by
  obtain ⟨i0, hi, hz0, hz1, hz2⟩ := info_parts Tryz.infoIntR
  obtain ⟨a1, c1, rfl, _⟩ := SlAt.shape h1
  have H1 := Lib.hid h1
  have HB : Hid (∀ o o2, Below w.heap.size w ((w.alloc o).alloc o2)) := fun o o2 => ((Below.refl _ _).alloc (Nat.le_refl _) o).alloc (by simp) o2
  have HM : Hid (∀ o : Obj, ((w.alloc o).alloc (.cells #[.int .i64 x] 3)).ownsRow w.heap.size 3 1 (.slice (some ⟨w.heap.size + 1, 0, none⟩) 1 1) 1 [.int .i64 x]) := fun o => by
    have h := World.ownsRow_lit (base := w.heap.size) (w.alloc o) #[.int .i64 x] 1 (e := 3) (size := 1) (by simp) (by simp [maxLen]) rfl
    rw [show (w.alloc o).heap.size = w.heap.size + 1 by simp] at h
    exact h
  clear h1
  go_enter Tryz.func171, Tryz.ntmps171
  go_wp2_with (at_builtin; refine wpList_append_sl rfl (.tmp 5) (.tmp 8) 26 rfl w.heap.size 3 i0 (.int .i64 0) 1 8 Tryz.underlying26 hi hz0 hz1 hz2 rfl (by decide) _ 1 _ rfl (HM.out _) _ vars.length _ rfl (H1.out.below (HB.out _ _)) (one_ints _) (by omega) (by first | (simp; done) | (simp; omega)) ?_; intro v1 w1 o1 b1 _)
  obtain ⟨oa, oc, rfl, _⟩ := (SlAt.of_own o1).shape
  have hb := Lib.hid ((HB.out _ _).trans b1)
  have hs := Lib.hid (SlAt.of_own o1)
  have e0 : 1 + vars.length = (x :: vars).length := by simp; omega
  rw [e0] at hs ⊢
  clear o1 b1 e0
  go_ret
  exact ⟨_, _, rfl, hs.out, hb.out⟩

theorem uniq_any (acc : List Int) (v : Int) : uniq acc v = if (acc.any (v == ·)) = true then acc else acc ++ [v] := by
  unfold uniq
  congr 1
  rw [eq_iff_iff, List.contains_iff_mem, List.any_eq_true]
  constructor
  · intro h; exact ⟨v, h, by simp⟩
  · rintro ⟨y, h1, h2⟩; have : v = y := by simpa using h2
    rw [this]; exact h1

set_option maxRecDepth 100000 in
set_option maxHeartbeats 1600000 in
theorem vars1_n (va vb vv : Value) (rel c x y z : Int) (coef vars vs : List Int) (w : World) (h0 : IsAt w va coef) (h1 : IsAt w vb vars) (h2 : IsAt w vv vs) (hl1 : vars.length ≤ 4095) (_hl2 : vs.length ≤ 4095) :
    Calls Tryz.prog 63 #[propV 1 va vb rel c x y z vv] w fun e w' => ∃ ao cap, e = .returned (.slice ao (uniqL vars).length cap) ∧ IsAt w' (.slice ao (uniqL vars).length cap) (uniqL vars) ∧ Below w.heap.size w w' ∧ ∀ b, (Value.slice ao (uniqL vars).length cap).ownBlock = some b → w.heap.size ≤ b := by
  obtain ⟨i0, hi, hz0, hz1, hz2⟩ := info_parts Tryz.infoIntR
  obtain ⟨a0, c0, rfl, _⟩ := SlAt.shape h0
  obtain ⟨a1, c1, rfl, _⟩ := SlAt.shape h1
  obtain ⟨a2, c2, rfl, _⟩ := SlAt.shape h2
  have HZ : Hid (Below w.heap.size w (w.alloc (.cells #[.int .i64 1, .slice a0 coef.length c0, .slice a1 vars.length c1, .int .i64 rel, .int .i64 c, .int .i64 x, .int .i64 y, .int .i64 z, .slice a2 vs.length c2] 67))) := (Below.refl _ _).alloc (Nat.le_refl _) _
  have CO : Hid (Calls Tryz.prog 84 #[.agg #[.int .i64 1, .slice a0 coef.length c0, .slice a1 vars.length c1, .int .i64 rel, .int .i64 c, .int .i64 x, .int .i64 y, .int .i64 z, .slice a2 vs.length c2]] (w.alloc (.cells #[.int .i64 1, .slice a0 coef.length c0, .slice a1 vars.length c1, .int .i64 rel, .int .i64 c, .int .i64 x, .int .i64 y, .int .i64 z, .slice a2 vs.length c2] 67)) fun e w' => e = .returned (.iface 124 (.agg #[.slice a0 coef.length c0, .slice a1 vars.length c1, .int .i64 rel, .int .i64 c])) ∧ Below (w.alloc (.cells #[.int .i64 1, .slice a0 coef.length c0, .slice a1 vars.length c1, .int .i64 rel, .int .i64 c, .int .i64 x, .int .i64 y, .int .i64 z, .slice a2 vs.length c2] 67)).heap.size _ w') := of_c 1 a0 a1 a2 coef.length vars.length vs.length c0 c1 c2 rel c x y z _
  have CV : Hid (∀ W, Below w.heap.size w W → Calls Tryz.prog 156 #[.agg #[.slice a0 coef.length c0, .slice a1 vars.length c1, .int .i64 rel, .int .i64 c]] W fun e w' => ∃ ao cap, e = .returned (.slice ao vars.length cap) ∧ IsAt w' (.slice ao vars.length cap) vars ∧ Below W.heap.size W w') := fun W h => (varsLin_c a0 a1 coef.length vars.length c0 c1 rel c W).mono fun e w' ⟨he, hb⟩ => ⟨a1, c1, he, h1.below (h.trans (hb.mono h.size)), hb⟩
  have hal : vars.length ≤ 4096 := by first | omega | (simp; done) | (simp; omega)
  clear h0 h1 h2 hl1 _hl2
  unfold propV
  go_enter Tryz.func63, Tryz.ntmps63
  go_wp2_with (first
    | (go_at_call 84; (with_reducible refine CO.out.mono ?_); rintro e W1 ⟨rfl, bb⟩; have B1 := Lib.hid (HZ.out.trans (bb.mono HZ.out.size)); clear bb)
    | (go_at_call 156; (with_reducible refine (CV.out _ B1.out).mono ?_); rintro e W2 ⟨a3, c3, rfl, i3, bb⟩; have B2 := Lib.hid (B1.out.trans (bb.mono B1.out.size)); have I3 := Lib.hid i3; clear bb i3))
  go_loopw [4, 14] (fun o s wr => ∃ i : Nat, i ≤ vars.length ∧ s = .int .i64 i ∧ wr.ownsRow W2.heap.size 3 1 o (uniqL (vars.take i)).length ((uniqL (vars.take i)).map (Value.int .i64)) ∧ Hid (Below W2.heap.size W2 wr)) (fun _ s _ => vars.length - (intOf s).toNat)
  case atStart => exact ⟨0, by omega, rfl, World.ownsRow_nil _ _ _ _, Lib.hid (Below.refl _ _)⟩
  case round =>
    obtain ⟨i, hil, rfl, hown, HB⟩ := hrel
    have hle := HB.out.size
    have hul := uniqL_len (vars.take i)
    by_cases hlt : i < vars.length
    · obtain ⟨b1, o1, rfl, q1, q2, x1⟩ := I3.out.getR i hlt
      rw [← HB.out.cell (p := ⟨b1, o1 + i, none⟩) q2] at x1
      have hun := uniqL_snoc (vars.take i) vars[i]
      rw [← List.take_succ_eq_append_getElem hlt, uniq_any] at hun
      have HU := Lib.hid hun
      have hOl : (uniqL (vars.take i)).length ≤ 4096 := by rw [List.length_take] at hul; omega
      have j1 : (i : Int) < vars.length := by omega
      clear hun hul
      generalize uniqL (vars.take i) = O at *
      generalize vars[i] = v at *
      obtain ⟨oa, oc, rfl, _⟩ := (SlAt.of_own hown).shape
      have CC := Lib.hid (contains_any (.slice oa O.length oc) O v wr (SlAt.of_own hown) (by omega))
      generalize O.any (v == ·) = bo at *
      cases bo
      · have HU2 : Hid (uniqL (vars.take (i + 1)) = O ++ [v]) := HU.out
        go_wp2_with (first
          | (go_at_call 88; (with_reducible refine CC.out.mono ?_); rintro e w' ⟨rfl, rfl⟩)
          | (at_builtin; refine wpList_append1 rfl (.tmp 22) (.tmp 24) 26 rfl W2.heap.size 3 i0 (.int .i64 0) 8 Tryz.underlying26 hi hz0 hz1 hz2 rfl _ _ _ rfl hown _ rfl rfl (by omega) hle ?_; intro v' w1 ow bw _ _))
        refine ⟨⟨i + 1, by omega, by go_num, ?_, Lib.hid (HB.out.trans bw)⟩, by simp [intOf]; omega⟩
        rw [HU2.out, List.length_append, List.map_append]
        exact ow
      · have HU2 : Hid (uniqL (vars.take (i + 1)) = O) := HU.out
        go_wp2_with (go_at_call 88; (with_reducible refine CC.out.mono ?_); rintro e w' ⟨rfl, rfl⟩)
        exact ⟨⟨i + 1, by omega, by go_num, by rw [HU2.out]; exact hown, HB⟩, by simp [intOf]; omega⟩
    · obtain rfl : i = vars.length := by omega
      rw [List.take_length] at hown
      obtain ⟨oa, oc, rfl, _⟩ := (SlAt.of_own hown).shape
      go_wp2
      go_ret
      exact ⟨_, _, rfl, SlAt.of_own hown, B2.out.trans (HB.out.mono B2.out.size), fun b hb => Nat.le_trans B2.out.size (hown.lt b hb).1⟩

set_option maxRecDepth 100000 in
set_option maxHeartbeats 1600000 in
theorem vars2_n (va vb vv : Value) (rel c x y z : Int) (coef vars vs : List Int) (w : World) (h0 : IsAt w va coef) (h1 : IsAt w vb vars) (h2 : IsAt w vv vs) (_hl1 : vars.length ≤ 4095) (_hl2 : vs.length ≤ 4095) :
    Calls Tryz.prog 63 #[propV 2 va vb rel c x y z vv] w fun e w' => ∃ ao cap, e = .returned (.slice ao (uniqL [x, y, z]).length cap) ∧ IsAt w' (.slice ao (uniqL [x, y, z]).length cap) (uniqL [x, y, z]) ∧ Below w.heap.size w w' ∧ ∀ b, (Value.slice ao (uniqL [x, y, z]).length cap).ownBlock = some b → w.heap.size ≤ b := by
  obtain ⟨i0, hi, hz0, hz1, hz2⟩ := info_parts Tryz.infoIntR
  obtain ⟨a0, c0, rfl, _⟩ := SlAt.shape h0
  obtain ⟨a1, c1, rfl, _⟩ := SlAt.shape h1
  obtain ⟨a2, c2, rfl, _⟩ := SlAt.shape h2
  have HZ : Hid (Below w.heap.size w (w.alloc (.cells #[.int .i64 2, .slice a0 coef.length c0, .slice a1 vars.length c1, .int .i64 rel, .int .i64 c, .int .i64 x, .int .i64 y, .int .i64 z, .slice a2 vs.length c2] 67))) := (Below.refl _ _).alloc (Nat.le_refl _) _
  have CO : Hid (Calls Tryz.prog 84 #[.agg #[.int .i64 2, .slice a0 coef.length c0, .slice a1 vars.length c1, .int .i64 rel, .int .i64 c, .int .i64 x, .int .i64 y, .int .i64 z, .slice a2 vs.length c2]] (w.alloc (.cells #[.int .i64 2, .slice a0 coef.length c0, .slice a1 vars.length c1, .int .i64 rel, .int .i64 c, .int .i64 x, .int .i64 y, .int .i64 z, .slice a2 vs.length c2] 67)) fun e w' => e = .returned (.iface 141 (.agg #[.int .i64 x, .int .i64 y, .int .i64 z])) ∧ Below (w.alloc (.cells #[.int .i64 2, .slice a0 coef.length c0, .slice a1 vars.length c1, .int .i64 rel, .int .i64 c, .int .i64 x, .int .i64 y, .int .i64 z, .slice a2 vs.length c2] 67)).heap.size _ w') := of_c 2 a0 a1 a2 coef.length vars.length vs.length c0 c1 c2 rel c x y z _
  have CV : Hid (∀ W, Below w.heap.size w W → Calls Tryz.prog 183 #[.agg #[.int .i64 x, .int .i64 y, .int .i64 z]] W fun e w' => ∃ ao cap, e = .returned (.slice ao [x, y, z].length cap) ∧ IsAt w' (.slice ao [x, y, z].length cap) [x, y, z] ∧ Below W.heap.size W w') := fun W h => varsProd_c x y z W
  have hal : [x, y, z].length ≤ 4096 := by first | omega | (simp; done) | (simp; omega)
  clear h0 h1 h2 _hl1 _hl2
  unfold propV
  obtain ⟨A, hA⟩ : ∃ A, A = [x, y, z] := ⟨_, rfl⟩
  rw [← hA] at CV hal ⊢
  clear hA
  go_enter Tryz.func63, Tryz.ntmps63
  go_wp2_with (first
    | (go_at_call 84; (with_reducible refine CO.out.mono ?_); rintro e W1 ⟨rfl, bb⟩; have B1 := Lib.hid (HZ.out.trans (bb.mono HZ.out.size)); clear bb)
    | (go_at_call 183; (with_reducible refine (CV.out _ B1.out).mono ?_); rintro e W2 ⟨a3, c3, rfl, i3, bb⟩; have B2 := Lib.hid (B1.out.trans (bb.mono B1.out.size)); have I3 := Lib.hid i3; clear bb i3))
  go_loopw [4, 14] (fun o s wr => ∃ i : Nat, i ≤ A.length ∧ s = .int .i64 i ∧ wr.ownsRow W2.heap.size 3 1 o (uniqL (A.take i)).length ((uniqL (A.take i)).map (Value.int .i64)) ∧ Hid (Below W2.heap.size W2 wr)) (fun _ s _ => A.length - (intOf s).toNat)
  case atStart => exact ⟨0, by omega, rfl, World.ownsRow_nil _ _ _ _, Lib.hid (Below.refl _ _)⟩
  case round =>
    obtain ⟨i, hil, rfl, hown, HB⟩ := hrel
    have hle := HB.out.size
    have hul := uniqL_len (A.take i)
    by_cases hlt : i < A.length
    · obtain ⟨b1, o1, rfl, q1, q2, x1⟩ := I3.out.getR i hlt
      rw [← HB.out.cell (p := ⟨b1, o1 + i, none⟩) q2] at x1
      have hun := uniqL_snoc (A.take i) A[i]
      rw [← List.take_succ_eq_append_getElem hlt, uniq_any] at hun
      have HU := Lib.hid hun
      have hOl : (uniqL (A.take i)).length ≤ 4096 := by rw [List.length_take] at hul; omega
      have j1 : (i : Int) < A.length := by omega
      clear hun hul
      generalize uniqL (A.take i) = O at *
      generalize A[i] = v at *
      obtain ⟨oa, oc, rfl, _⟩ := (SlAt.of_own hown).shape
      have CC := Lib.hid (contains_any (.slice oa O.length oc) O v wr (SlAt.of_own hown) (by omega))
      generalize O.any (v == ·) = bo at *
      cases bo
      · have HU2 : Hid (uniqL (A.take (i + 1)) = O ++ [v]) := HU.out
        go_wp2_with (first
          | (go_at_call 88; (with_reducible refine CC.out.mono ?_); rintro e w' ⟨rfl, rfl⟩)
          | (at_builtin; refine wpList_append1 rfl (.tmp 22) (.tmp 24) 26 rfl W2.heap.size 3 i0 (.int .i64 0) 8 Tryz.underlying26 hi hz0 hz1 hz2 rfl _ _ _ rfl hown _ rfl rfl (by omega) hle ?_; intro v' w1 ow bw _ _))
        refine ⟨⟨i + 1, by omega, by go_num, ?_, Lib.hid (HB.out.trans bw)⟩, by simp [intOf]; omega⟩
        rw [HU2.out, List.length_append, List.map_append]
        exact ow
      · have HU2 : Hid (uniqL (A.take (i + 1)) = O) := HU.out
        go_wp2_with (go_at_call 88; (with_reducible refine CC.out.mono ?_); rintro e w' ⟨rfl, rfl⟩)
        exact ⟨⟨i + 1, by omega, by go_num, by rw [HU2.out]; exact hown, HB⟩, by simp [intOf]; omega⟩
    · obtain rfl : i = A.length := by omega
      rw [List.take_length] at hown
      obtain ⟨oa, oc, rfl, _⟩ := (SlAt.of_own hown).shape
      go_wp2
      go_ret
      exact ⟨_, _, rfl, SlAt.of_own hown, B2.out.trans (HB.out.mono B2.out.size), fun b hb => Nat.le_trans B2.out.size (hown.lt b hb).1⟩

set_option maxRecDepth 100000 in
set_option maxHeartbeats 1600000 in
theorem vars3_n (va vb vv : Value) (rel c x y z : Int) (coef vars vs : List Int) (w : World) (h0 : IsAt w va coef) (h1 : IsAt w vb vars) (h2 : IsAt w vv vs) (_hl1 : vars.length ≤ 4095) (hl2 : vs.length ≤ 4095) :
    Calls Tryz.prog 63 #[propV 3 va vb rel c x y z vv] w fun e w' => ∃ ao cap, e = .returned (.slice ao (uniqL vs).length cap) ∧ IsAt w' (.slice ao (uniqL vs).length cap) (uniqL vs) ∧ Below w.heap.size w w' ∧ ∀ b, (Value.slice ao (uniqL vs).length cap).ownBlock = some b → w.heap.size ≤ b := by
  obtain ⟨i0, hi, hz0, hz1, hz2⟩ := info_parts Tryz.infoIntR
  obtain ⟨a0, c0, rfl, _⟩ := SlAt.shape h0
  obtain ⟨a1, c1, rfl, _⟩ := SlAt.shape h1
  obtain ⟨a2, c2, rfl, _⟩ := SlAt.shape h2
  have HZ : Hid (Below w.heap.size w (w.alloc (.cells #[.int .i64 3, .slice a0 coef.length c0, .slice a1 vars.length c1, .int .i64 rel, .int .i64 c, .int .i64 x, .int .i64 y, .int .i64 z, .slice a2 vs.length c2] 67))) := (Below.refl _ _).alloc (Nat.le_refl _) _
  have CO : Hid (Calls Tryz.prog 84 #[.agg #[.int .i64 3, .slice a0 coef.length c0, .slice a1 vars.length c1, .int .i64 rel, .int .i64 c, .int .i64 x, .int .i64 y, .int .i64 z, .slice a2 vs.length c2]] (w.alloc (.cells #[.int .i64 3, .slice a0 coef.length c0, .slice a1 vars.length c1, .int .i64 rel, .int .i64 c, .int .i64 x, .int .i64 y, .int .i64 z, .slice a2 vs.length c2] 67)) fun e w' => e = .returned (.iface 128 (.agg #[.slice a2 vs.length c2])) ∧ Below (w.alloc (.cells #[.int .i64 3, .slice a0 coef.length c0, .slice a1 vars.length c1, .int .i64 rel, .int .i64 c, .int .i64 x, .int .i64 y, .int .i64 z, .slice a2 vs.length c2] 67)).heap.size _ w') := of_c 3 a0 a1 a2 coef.length vars.length vs.length c0 c1 c2 rel c x y z _
  have CV : Hid (∀ W, Below w.heap.size w W → Calls Tryz.prog 180 #[.agg #[.slice a2 vs.length c2]] W fun e w' => ∃ ao cap, e = .returned (.slice ao vs.length cap) ∧ IsAt w' (.slice ao vs.length cap) vs ∧ Below W.heap.size W w') := fun W h => (varsDiff_c a2 vs.length c2 W).mono fun e w' ⟨he, hb⟩ => ⟨a2, c2, he, h2.below (h.trans (hb.mono h.size)), hb⟩
  have hal : vs.length ≤ 4096 := by first | omega | (simp; done) | (simp; omega)
  clear h0 h1 h2 _hl1 hl2
  unfold propV
  go_enter Tryz.func63, Tryz.ntmps63
  go_wp2_with (first
    | (go_at_call 84; (with_reducible refine CO.out.mono ?_); rintro e W1 ⟨rfl, bb⟩; have B1 := Lib.hid (HZ.out.trans (bb.mono HZ.out.size)); clear bb)
    | (go_at_call 180; (with_reducible refine (CV.out _ B1.out).mono ?_); rintro e W2 ⟨a3, c3, rfl, i3, bb⟩; have B2 := Lib.hid (B1.out.trans (bb.mono B1.out.size)); have I3 := Lib.hid i3; clear bb i3))
  go_loopw [4, 14] (fun o s wr => ∃ i : Nat, i ≤ vs.length ∧ s = .int .i64 i ∧ wr.ownsRow W2.heap.size 3 1 o (uniqL (vs.take i)).length ((uniqL (vs.take i)).map (Value.int .i64)) ∧ Hid (Below W2.heap.size W2 wr)) (fun _ s _ => vs.length - (intOf s).toNat)
  case atStart => exact ⟨0, by omega, rfl, World.ownsRow_nil _ _ _ _, Lib.hid (Below.refl _ _)⟩
  case round =>
    obtain ⟨i, hil, rfl, hown, HB⟩ := hrel
    have hle := HB.out.size
    have hul := uniqL_len (vs.take i)
    by_cases hlt : i < vs.length
    · obtain ⟨b1, o1, rfl, q1, q2, x1⟩ := I3.out.getR i hlt
      rw [← HB.out.cell (p := ⟨b1, o1 + i, none⟩) q2] at x1
      have hun := uniqL_snoc (vs.take i) vs[i]
      rw [← List.take_succ_eq_append_getElem hlt, uniq_any] at hun
      have HU := Lib.hid hun
      have hOl : (uniqL (vs.take i)).length ≤ 4096 := by rw [List.length_take] at hul; omega
      have j1 : (i : Int) < vs.length := by omega
      clear hun hul
      generalize uniqL (vs.take i) = O at *
      generalize vs[i] = v at *
      obtain ⟨oa, oc, rfl, _⟩ := (SlAt.of_own hown).shape
      have CC := Lib.hid (contains_any (.slice oa O.length oc) O v wr (SlAt.of_own hown) (by omega))
      generalize O.any (v == ·) = bo at *
      cases bo
      · have HU2 : Hid (uniqL (vs.take (i + 1)) = O ++ [v]) := HU.out
        go_wp2_with (first
          | (go_at_call 88; (with_reducible refine CC.out.mono ?_); rintro e w' ⟨rfl, rfl⟩)
          | (at_builtin; refine wpList_append1 rfl (.tmp 22) (.tmp 24) 26 rfl W2.heap.size 3 i0 (.int .i64 0) 8 Tryz.underlying26 hi hz0 hz1 hz2 rfl _ _ _ rfl hown _ rfl rfl (by omega) hle ?_; intro v' w1 ow bw _ _))
        refine ⟨⟨i + 1, by omega, by go_num, ?_, Lib.hid (HB.out.trans bw)⟩, by simp [intOf]; omega⟩
        rw [HU2.out, List.length_append, List.map_append]
        exact ow
      · have HU2 : Hid (uniqL (vs.take (i + 1)) = O) := HU.out
        go_wp2_with (go_at_call 88; (with_reducible refine CC.out.mono ?_); rintro e w' ⟨rfl, rfl⟩)
        exact ⟨⟨i + 1, by omega, by go_num, by rw [HU2.out]; exact hown, HB⟩, by simp [intOf]; omega⟩
    · obtain rfl : i = vs.length := by omega
      rw [List.take_length] at hown
      obtain ⟨oa, oc, rfl, _⟩ := (SlAt.of_own hown).shape
      go_wp2
      go_ret
      exact ⟨_, _, rfl, SlAt.of_own hown, B2.out.trans (HB.out.mono B2.out.size), fun b hb => Nat.le_trans B2.out.size (hown.lt b hb).1⟩

set_option maxRecDepth 100000 in
set_option maxHeartbeats 1600000 in
theorem vars4_n (va vb vv : Value) (rel c x y z : Int) (coef vars vs : List Int) (w : World) (h0 : IsAt w va coef) (h1 : IsAt w vb vars) (h2 : IsAt w vv vs) (hl1 : vars.length ≤ 4095) (_hl2 : vs.length ≤ 4095) :
    Calls Tryz.prog 63 #[propV 4 va vb rel c x y z vv] w fun e w' => ∃ ao cap, e = .returned (.slice ao (uniqL (x :: vars)).length cap) ∧ IsAt w' (.slice ao (uniqL (x :: vars)).length cap) (uniqL (x :: vars)) ∧ Below w.heap.size w w' ∧ ∀ b, (Value.slice ao (uniqL (x :: vars)).length cap).ownBlock = some b → w.heap.size ≤ b := by
  obtain ⟨i0, hi, hz0, hz1, hz2⟩ := info_parts Tryz.infoIntR
  obtain ⟨a0, c0, rfl, _⟩ := SlAt.shape h0
  obtain ⟨a1, c1, rfl, _⟩ := SlAt.shape h1
  obtain ⟨a2, c2, rfl, _⟩ := SlAt.shape h2
  have HZ : Hid (Below w.heap.size w (w.alloc (.cells #[.int .i64 4, .slice a0 coef.length c0, .slice a1 vars.length c1, .int .i64 rel, .int .i64 c, .int .i64 x, .int .i64 y, .int .i64 z, .slice a2 vs.length c2] 67))) := (Below.refl _ _).alloc (Nat.le_refl _) _
  have CO : Hid (Calls Tryz.prog 84 #[.agg #[.int .i64 4, .slice a0 coef.length c0, .slice a1 vars.length c1, .int .i64 rel, .int .i64 c, .int .i64 x, .int .i64 y, .int .i64 z, .slice a2 vs.length c2]] (w.alloc (.cells #[.int .i64 4, .slice a0 coef.length c0, .slice a1 vars.length c1, .int .i64 rel, .int .i64 c, .int .i64 x, .int .i64 y, .int .i64 z, .slice a2 vs.length c2] 67)) fun e w' => e = .returned (.iface 126 (.agg #[.int .i64 x, .slice a0 coef.length c0, .slice a1 vars.length c1, .int .i64 rel, .int .i64 c])) ∧ Below (w.alloc (.cells #[.int .i64 4, .slice a0 coef.length c0, .slice a1 vars.length c1, .int .i64 rel, .int .i64 c, .int .i64 x, .int .i64 y, .int .i64 z, .slice a2 vs.length c2] 67)).heap.size _ w') := of_c 4 a0 a1 a2 coef.length vars.length vs.length c0 c1 c2 rel c x y z _
  have CV : Hid (∀ W, Below w.heap.size w W → Calls Tryz.prog 171 #[.agg #[.int .i64 x, .slice a0 coef.length c0, .slice a1 vars.length c1, .int .i64 rel, .int .i64 c]] W fun e w' => ∃ ao cap, e = .returned (.slice ao (x :: vars).length cap) ∧ IsAt w' (.slice ao (x :: vars).length cap) (x :: vars) ∧ Below W.heap.size W w') := fun W h => varsReif_c x rel c a0 coef.length c0 _ vars W (h1.below h) (by omega)
  have hal : (x :: vars).length ≤ 4096 := by first | omega | (simp; done) | (simp; omega)
  clear h0 h1 h2 hl1 _hl2
  unfold propV
  obtain ⟨A, hA⟩ : ∃ A, A = (x :: vars) := ⟨_, rfl⟩
  rw [← hA] at CV hal ⊢
  clear hA
  go_enter Tryz.func63, Tryz.ntmps63
  go_wp2_with (first
    | (go_at_call 84; (with_reducible refine CO.out.mono ?_); rintro e W1 ⟨rfl, bb⟩; have B1 := Lib.hid (HZ.out.trans (bb.mono HZ.out.size)); clear bb)
    | (go_at_call 171; (with_reducible refine (CV.out _ B1.out).mono ?_); rintro e W2 ⟨a3, c3, rfl, i3, bb⟩; have B2 := Lib.hid (B1.out.trans (bb.mono B1.out.size)); have I3 := Lib.hid i3; clear bb i3))
  go_loopw [4, 14] (fun o s wr => ∃ i : Nat, i ≤ A.length ∧ s = .int .i64 i ∧ wr.ownsRow W2.heap.size 3 1 o (uniqL (A.take i)).length ((uniqL (A.take i)).map (Value.int .i64)) ∧ Hid (Below W2.heap.size W2 wr)) (fun _ s _ => A.length - (intOf s).toNat)
  case atStart => exact ⟨0, by omega, rfl, World.ownsRow_nil _ _ _ _, Lib.hid (Below.refl _ _)⟩
  case round =>
    obtain ⟨i, hil, rfl, hown, HB⟩ := hrel
    have hle := HB.out.size
    have hul := uniqL_len (A.take i)
    by_cases hlt : i < A.length
    · obtain ⟨b1, o1, rfl, q1, q2, x1⟩ := I3.out.getR i hlt
      rw [← HB.out.cell (p := ⟨b1, o1 + i, none⟩) q2] at x1
      have hun := uniqL_snoc (A.take i) A[i]
      rw [← List.take_succ_eq_append_getElem hlt, uniq_any] at hun
      have HU := Lib.hid hun
      have hOl : (uniqL (A.take i)).length ≤ 4096 := by rw [List.length_take] at hul; omega
      have j1 : (i : Int) < A.length := by omega
      clear hun hul
      generalize uniqL (A.take i) = O at *
      generalize A[i] = v at *
      obtain ⟨oa, oc, rfl, _⟩ := (SlAt.of_own hown).shape
      have CC := Lib.hid (contains_any (.slice oa O.length oc) O v wr (SlAt.of_own hown) (by omega))
      generalize O.any (v == ·) = bo at *
      cases bo
      · have HU2 : Hid (uniqL (A.take (i + 1)) = O ++ [v]) := HU.out
        go_wp2_with (first
          | (go_at_call 88; (with_reducible refine CC.out.mono ?_); rintro e w' ⟨rfl, rfl⟩)
          | (at_builtin; refine wpList_append1 rfl (.tmp 22) (.tmp 24) 26 rfl W2.heap.size 3 i0 (.int .i64 0) 8 Tryz.underlying26 hi hz0 hz1 hz2 rfl _ _ _ rfl hown _ rfl rfl (by omega) hle ?_; intro v' w1 ow bw _ _))
        refine ⟨⟨i + 1, by omega, by go_num, ?_, Lib.hid (HB.out.trans bw)⟩, by simp [intOf]; omega⟩
        rw [HU2.out, List.length_append, List.map_append]
        exact ow
      · have HU2 : Hid (uniqL (A.take (i + 1)) = O) := HU.out
        go_wp2_with (go_at_call 88; (with_reducible refine CC.out.mono ?_); rintro e w' ⟨rfl, rfl⟩)
        exact ⟨⟨i + 1, by omega, by go_num, by rw [HU2.out]; exact hown, HB⟩, by simp [intOf]; omega⟩
    · obtain rfl : i = A.length := by omega
      rw [List.take_length] at hown
      obtain ⟨oa, oc, rfl, _⟩ := (SlAt.of_own hown).shape
      go_wp2
      go_ret
      exact ⟨_, _, rfl, SlAt.of_own hown, B2.out.trans (HB.out.mono B2.out.size), fun b hb => Nat.le_trans B2.out.size (hown.lt b hb).1⟩

set_option maxRecDepth 100000 in
theorem vars0_c (kind : Int) (va vb vv : Value) (rel c x y z : Int) (coef vars vs : List Int) (w : World) (h0 : IsAt w va coef) (h1 : IsAt w vb vars) (h2 : IsAt w vv vs) (_hl1 : vars.length ≤ 4095) (_hl2 : vs.length ≤ 4095) (k1 : kind ≠ 1) (k2 : kind ≠ 2) (k3 : kind ≠ 3) (k4 : kind ≠ 4) :
    Calls Tryz.prog 63 #[propV kind va vb rel c x y z vv] w fun e w' => e = .returned (.slice none 0 0) ∧ Below w.heap.size w w' := by
  obtain ⟨a0, c0, rfl, _⟩ := SlAt.shape h0
  obtain ⟨a1, c1, rfl, _⟩ := SlAt.shape h1
  obtain ⟨a2, c2, rfl, _⟩ := SlAt.shape h2
  have HZ : Hid (Below w.heap.size w (w.alloc (.cells #[.int .i64 kind, .slice a0 coef.length c0, .slice a1 vars.length c1, .int .i64 rel, .int .i64 c, .int .i64 x, .int .i64 y, .int .i64 z, .slice a2 vs.length c2] 67))) := (Below.refl _ _).alloc (Nat.le_refl _) _
  have CO := Lib.hid (of_c kind a0 a1 a2 coef.length vars.length vs.length c0 c1 c2 rel c x y z (w.alloc (.cells #[.int .i64 kind, .slice a0 coef.length c0, .slice a1 vars.length c1, .int .i64 rel, .int .i64 c, .int .i64 x, .int .i64 y, .int .i64 z, .slice a2 vs.length c2] 67)))
  unfold ofV at CO
  rw [if_neg k1, if_neg k2, if_neg k3, if_neg k4] at CO
  unfold propV at *
  clear k1 k2 k3 k4
  go_enter Tryz.func63, Tryz.ntmps63
  go_wp2_with (go_at_call 84; (with_reducible refine CO.out.mono ?_); rintro e W1 ⟨rfl, bb⟩; have B1 := Lib.hid (HZ.out.trans (bb.mono HZ.out.size)); clear bb)
  go_ret
  exact ⟨rfl, B1.out⟩
theorem vars_n (kind : Int) (va vb vv : Value) (rel c x y z : Int) (coef vars vs : List Int) (w : World) (h0 : IsAt w va coef) (h1 : IsAt w vb vars) (h2 : IsAt w vv vs) (hl1 : vars.length ≤ 4095) (hl2 : vs.length ≤ 4095) :
    Calls Tryz.prog 63 #[propV kind va vb rel c x y z vv] w fun e w' => ∃ ao cap, e = .returned (.slice ao (uniqL (allL kind vars x y z vs)).length cap) ∧ IsAt w' (.slice ao (uniqL (allL kind vars x y z vs)).length cap) (uniqL (allL kind vars x y z vs)) ∧ Below w.heap.size w w' ∧ ∀ b, (Value.slice ao (uniqL (allL kind vars x y z vs)).length cap).ownBlock = some b → w.heap.size ≤ b := by
  unfold allL
  by_cases k1 : kind = 1
  · subst k1; simp only [if_true]; exact vars1_n va vb vv rel c x y z coef vars vs w h0 h1 h2 hl1 hl2
  by_cases k2 : kind = 2
  · subst k2; simp only [show ((2 : Int) = 1) = False by simp, if_true, if_false]; exact vars2_n va vb vv rel c x y z coef vars vs w h0 h1 h2 hl1 hl2
  by_cases k3 : kind = 3
  · subst k3; simp only [show ((3 : Int) = 1) = False by simp, show ((3 : Int) = 2) = False by simp, if_true, if_false]; exact vars3_n va vb vv rel c x y z coef vars vs w h0 h1 h2 hl1 hl2
  by_cases k4 : kind = 4
  · subst k4; simp only [show ((4 : Int) = 1) = False by simp, show ((4 : Int) = 2) = False by simp, show ((4 : Int) = 3) = False by simp, if_true, if_false]; exact vars4_n va vb vv rel c x y z coef vars vs w h0 h1 h2 hl1 hl2
  rw [if_neg k1, if_neg k2, if_neg k3, if_neg k4]
  exact (vars0_c kind va vb vv rel c x y z coef vars vs w h0 h1 h2 hl1 hl2 k1 k2 k3 k4).mono fun e w' ⟨he, hb⟩ => ⟨none, 0, he, SlAt.nil, hb, fun b hb => by simp [Value.ownBlock] at hb⟩
end Go.Proofs.YtaekdgikgbdnnaaGreat
