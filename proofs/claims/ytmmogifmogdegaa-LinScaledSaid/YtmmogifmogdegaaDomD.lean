/-
  dom.Ends, dom.At, walked.
-/
import Derived.Test.YtmmogifmogdegaaDomC
namespace Go.Proofs.Ytmmogifmogdegaa
open Go.RowKit

def endV (l : List Rg) : Value := .tuple #[.int .i64 (endsL l).1, .int .i64 (endsL l).2.1, .bool (endsL l).2.2]
def atV (o : Option Int) : Value := match o with
  | some n => .tuple #[.int .i64 n, .bool true]
  | none => .tuple #[.int .i64 0, .bool false]

set_option maxRecDepth 100000 in
set_option maxHeartbeats 800000 in
theorem ends_c (va : Value) (a : List Rg) (w : World) (ha : RgAt w va a) (hla : a.length ≤ 4096) :
    Calls Try.prog 46 #[va] w fun e w' => e = .returned (endV (norm a)) ∧ Below w.heap.size w w' := by
  obtain ⟨ao, cap, rfl, _⟩ := ha.shape
  have CA : Hid (Calls Try.prog 26 #[.slice ao a.length cap] w (RetR (norm a) w)) := norm_c _ _ w ha hla
  have hln : (norm a).length ≤ 201 := norm_len a
  clear ha
  generalize hNA : norm a = na at CA hln ⊢
  clear hNA
  rcases List.eq_nil_or_concat na with rfl | ⟨M, p, rfl⟩
  · rw [show ([] : List Rg).length = 0 from rfl] at *
    go_enter Try.func46, Try.ntmps46
    go_wp2_with (first
      | (go_at_call 26; (with_reducible refine CA.out.mono ?_); rintro e W ⟨a1, c1, rfl, hr1, hb1⟩; rw [show ([] : List Rg).length = 0 from rfl]; have HW := Lib.hid hb1; clear hr1 hb1))
    go_ret3
    exact ⟨rfl, HW.out⟩
  · rw [List.concat_eq_append] at *
    go_enter Try.func46, Try.ntmps46
    have hML : (M ++ [p]).length = M.length + 1 := by simp
    have HEV : Hid (endV (M ++ [p]) = .tuple #[.int .i64 ((M ++ [p])[0]'(by simp)).1, .int .i64 p.2, .bool true]) := by
      show _ = _
      cases M with
      | nil => rfl
      | cons r M =>
        have hl : (r :: (M ++ [p])).getLast (by simp) = p := by
          have h1 : (r :: (M ++ [p])).getLast? = some p := List.getLast?_concat (l := r :: M) (a := p)
          rw [List.getLast?_eq_some_getLast (by simp)] at h1
          exact Option.some.inj h1
        show Value.tuple #[_, .int .i64 ((r :: (M ++ [p])).getLast _).2, _] = _
        rw [hl]
        rfl
    have hz : ((M.length : Int) + 1 == 0) = false := beq_eq_false_iff_ne.2 (by omega)
    go_wp2_with (first
      | (go_at_call 26; (with_reducible refine CA.out.mono ?_); rintro e W ⟨a1, c1, rfl, hr1, hb1⟩; have HR1 := Lib.hid hr1; have HW := Lib.hid hb1; clear hr1 hb1; rw [hML]))
    obtain ⟨b, off, c', he, hcap, hbs, hc⟩ := RgAt.at HR1.out (by simp)
    simp only [Value.slice.injEq, true_and] at he
    obtain ⟨rfl, _, rfl⟩ := he
    have c1 := (hc 0 (by simp)).1
    have c2 := (hc M.length (by simp)).2
    simp only [Nat.zero_mul, Nat.add_zero, List.getElem_append_right, Nat.le_refl, Nat.sub_self, List.getElem_cons_zero] at c1 c2
    clear hc
    obtain ⟨x, hx⟩ : ∃ x, x = ((M ++ [p])[0]'(by simp)).1 := ⟨_, rfl⟩
    rw [← hx] at c1 HEV
    clear hx
    go_wp2
    go_quiet (fail)
    go_wp2
    go_ret3
    exact ⟨by rw [HEV.out]; rfl, below_drewN HW.out _⟩

set_option maxRecDepth 100000 in
set_option maxHeartbeats 800000 in
theorem at_c (va : Value) (a : List Rg) (i : Int) (w : World) (ha : RgAt w va a) (hla : a.length ≤ 4096) (hi0 : -9223372036854775808 ≤ i ∧ i ≤ 9223372036854775807) :
    Calls Try.prog 54 #[va, .int .i64 i] w fun e w' => e = .returned (atV (if i < 0 then none else atL (norm a) i)) ∧ Below w.heap.size w w' := by
  obtain ⟨ao, cap, rfl, _⟩ := ha.shape
  by_cases hneg : i < 0
  · go_enter Try.func54, Try.ntmps54
    go_wp2
    go_ret2
    exact ⟨rfl, Below.refl _ _⟩
  rw [if_neg hneg]
  have CA : Hid (Calls Try.prog 26 #[.slice ao a.length cap] w (RetR (norm a) w)) := norm_c _ _ w ha hla
  have HBD : Hid (∀ p ∈ norm a, -200 ≤ p.1 ∧ p.1 ≤ p.2 ∧ p.2 ≤ 200) := norm_bounds a
  have hln : (norm a).length ≤ 201 := norm_len a
  clear ha
  generalize hNA : norm a = na at CA hln HBD ⊢
  clear hNA
  obtain ⟨hi1, hi2⟩ := hi0
  go_enter Try.func54, Try.ntmps54
  go_wp2_with (first
    | (go_at_call 26; (with_reducible refine CA.out.mono ?_); rintro e W ⟨a1, c1, rfl, hr1, hb1⟩; have HR1 := Lib.hid hr1; have HW := Lib.hid hb1; clear hr1 hb1))
  go_loopw [1, 14] (fun f s wr => ∃ k : Nat, ∃ fz : Int, k ≤ na.length ∧ s = .int .i64 k ∧ f = .int .i64 fz ∧ 0 ≤ fz ∧ fz ≤ 9223372036854775807 ∧ atL na i = atL (na.drop k) fz ∧ Below W.heap.size W wr) (fun _ s _ => na.length - (intOf s).toNat)
  case atStart => exact ⟨0, i, by omega, rfl, rfl, by omega, by omega, rfl, Below.refl _ _⟩
  case round =>
    obtain ⟨k, fz, hk, rfl, rfl, hf1, hf2, hf, hbel⟩ := hrel
    have hle : W.heap.size ≤ wr.heap.size := hbel.size
    have HB := Lib.hid hbel
    clear hbel
    by_cases hlt : k < na.length
    · obtain ⟨b, off, c', he, hcap, hbs, hc⟩ := RgAt.at HR1.out (by omega)
      simp only [Value.slice.injEq, true_and] at he
      obtain ⟨rfl, rfl⟩ := he
      obtain ⟨c1, c2⟩ := hc k hlt
      rw [← HB.out.cell (p := ⟨b, off + k * 2, none⟩) hbs] at c1
      rw [← HB.out.cell (p := ⟨b, off + k * 2 + 1, none⟩) hbs] at c2
      have hbd := HBD.out _ (List.getElem_mem hlt)
      rw [List.drop_eq_getElem_cons hlt, atL] at hf
      obtain ⟨r, hr⟩ : ∃ r, r = na[k] := ⟨_, rfl⟩
      rw [← hr] at c1 c2 hf hbd
      have HF := Lib.hid hf
      clear hc hr hf
      obtain ⟨hd1, hd2, hd3⟩ := hbd
      have hbe : b ≠ wr.heap.size := by have := hbs; omega
      by_cases hx : fz ≥ r.2 - r.1 + 1
      · rw [if_pos hx] at HF
        go_wp2
        exact ⟨⟨k + 1, fz - (r.2 - r.1 + 1), by omega, by go_num, by first | rfl | go_num, by omega, by omega, HF.out, HB.out.alloc hle _⟩, by simp [intOf]; omega⟩
      · rw [if_neg hx] at HF
        go_wp2
        go_ret2
        exact ⟨by rw [HF.out]; rfl, HW.out.trans ((HB.out.alloc hle _).mono HW.out.size)⟩
    · obtain rfl : k = na.length := by omega
      rw [List.drop_length, atL] at hf
      have HF := Lib.hid hf
      clear hf
      go_wp2
      go_ret2
      exact ⟨by rw [HF.out]; rfl, HW.out.trans (HB.out.mono HW.out.size)⟩
end Go.Proofs.Ytmmogifmogdegaa
