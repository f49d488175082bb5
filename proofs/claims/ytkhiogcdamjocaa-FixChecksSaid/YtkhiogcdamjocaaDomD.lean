/-
  dom.Ends, dom.At, walked.
-/
import Derived.Test.YtkhiogcdamjocaaDomC
namespace Go.Proofs.Ytkhiogcdamjocaa
open Go.RowKit

def endV (l : List Rg) : Value := .tuple #[.int .i64 (endsL l).1, .int .i64 (endsL l).2.1, .bool (endsL l).2.2]
def atV (o : Option Int) : Value := match o with
  | some n => .tuple #[.int .i64 n, .bool true]
  | none => .tuple #[.int .i64 0, .bool false]

set_option maxRecDepth 100000 in
set_option maxHeartbeats 800000 in
theorem ends_c (va : Value) (a : List Rg) (w : World) (ha : RgAt w va a) (hla : a.length ≤ 4096) :
    Calls Try.prog 47 #[va] w fun e w' => e = .returned (endV (norm a)) ∧ Below w.heap.size w w' := by
  obtain ⟨ao, cap, rfl, _⟩ := ha.shape
  have CA : Hid (Calls Try.prog 61 #[.slice ao a.length cap] w (RetR (norm a) w)) := norm_c _ _ w ha hla
  have hln : (norm a).length ≤ 201 := norm_len a
  clear ha
  generalize hNA : norm a = na at CA hln ⊢
  clear hNA
  rcases List.eq_nil_or_concat na with rfl | ⟨M, p, rfl⟩
  · rw [show ([] : List Rg).length = 0 from rfl] at *
    go_enter Try.func47, Try.ntmps47
    go_wp2_with (first
      | (go_at_call 61; (with_reducible refine CA.out.mono ?_); rintro e W ⟨a1, c1, rfl, hr1, hb1⟩; rw [show ([] : List Rg).length = 0 from rfl]; have HW := Lib.hid hb1; clear hr1 hb1))
    go_ret3
    exact ⟨rfl, HW.out⟩
  · rw [List.concat_eq_append] at *
    go_enter Try.func47, Try.ntmps47
    have hML : (M ++ [p]).length = M.length + 1 := by simp
    have HEV : Hid (endV (M ++ [p]) = .tuple #[.int .i64 ((M ++ [p])[0]'(by simp)).1, .int .i64 p.2, .bool true]) := by
      show _ = _
      cases M with
      | nil => rfl
      | cons r M =>
        have hl : (r :: (M ++ [p])).getLast (by simp) = p := by
          have h1 : (r :: (M ++ [p])).getLast? = some p := List.getLast?_concat (l := r :: M) (a := p)
          rw [List.getLast?_eq_some_getLast (by simp)] at h1
          exact Option.some.inj h1
        show Value.tuple #[_, .int .i64 ((r :: (M ++ [p])).getLast _).2, _] = _
        rw [hl]
        rfl
    have hz : ((M.length : Int) + 1 == 0) = false := beq_eq_false_iff_ne.2 (by omega)
    go_wp2_with (first
      | (go_at_call 61; (with_reducible refine CA.out.mono ?_); rintro e W ⟨a1, c1, rfl, hr1, hb1⟩; have HR1 := Lib.hid hr1; have HW := Lib.hid hb1; clear hr1 hb1; rw [hML]))
    obtain ⟨b, off, c', he, hcap, hbs, hc⟩ := RgAt.at HR1.out (by simp)
    simp only [Value.slice.injEq, true_and] at he
    obtain ⟨rfl, _, rfl⟩ := he
    have c1 := (hc 0 (by simp)).1
    have c2 := (hc M.length (by simp)).2
    simp only [Nat.zero_mul, Nat.add_zero, List.getElem_append_right, Nat.le_refl, Nat.sub_self, List.getElem_cons_zero] at c1 c2
    clear hc
    obtain ⟨x, hx⟩ : ∃ x, x = ((M ++ [p])[0]'(by simp)).1 := ⟨_, rfl⟩
    rw [← hx] at c1 HEV
    clear hx
    go_wp2
    go_quiet (fail)
    go_wp2
    go_ret3
    exact ⟨by rw [HEV.out]; rfl, below_drewN HW.out _⟩

end Go.Proofs.Ytkhiogcdamjocaa
