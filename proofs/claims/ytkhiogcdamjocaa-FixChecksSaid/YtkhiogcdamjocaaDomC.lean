/-
  dom.Minus, dom.Size, dom.Ends, dom.At, walked.
-/
import Derived.Test.YtkhiogcdamjocaaDomA
import Derived.Test.YtkhiogcdamjocaaDomB
namespace Go.Proofs.Ytkhiogcdamjocaa
open Go.RowKit

theorem norm_bnd (S : Int → Bool) : canon S = canon S := rfl
theorem minus_eq (a b : List Rg) : meetL a (complL b) = minusL a b := by
  unfold meetL minusL
  exact canon_congr fun n h1 h2 => by rw [complL, canon_mem]; simp [h1, h2]

theorem minus_c (va vb : Value) (a b : List Rg) (w : World) (ha : RgAt w va a) (hb : RgAt w vb b) (hla : a.length ≤ 4096) (hlb : b.length ≤ 4096) :
    Calls Try.prog 49 #[va, vb] w (RetR (minusL a b) w) := by
  obtain ⟨ao, cap, rfl, _⟩ := ha.shape
  obtain ⟨ao2, cap2, rfl, _⟩ := hb.shape
  have HA := Lib.hid ha
  have CB := Lib.hid (compl_c _ b w hb hlb)
  have HE := Lib.hid (minus_eq a b)
  have hlc : (complL b).length ≤ 201 := canon_len _
  clear ha hb
  generalize complL b = cb at CB HE hlc
  generalize minusL a b = me at HE ⊢
  go_enter Try.func49, Try.ntmps49
  go_wp2_with (first
    | (go_at_call 62; (with_reducible refine CB.out.mono ?_); rintro e W ⟨a1, c1, rfl, hr1, hb1⟩; have CM := Lib.hid (meet_c _ _ a cb W (HA.out.below hb1) hr1 hla (by omega)); rw [HE.out] at CM; have HW := Lib.hid hb1; clear hr1 hb1)
    | (go_at_call 48; (with_reducible refine CM.out.mono ?_); rintro e W2 ⟨a2, c2, rfl, hr2, hb2⟩))
  go_ret
  exact ⟨_, _, rfl, hr2, HW.out.trans (hb2.mono HW.out.size)⟩

theorem sizeL_bounds : ∀ (l : List Rg) (lo : Int), lo ≤ 202 → NormFrom lo l → 0 ≤ sizeL l ∧ sizeL l ≤ 202 - lo
  | [], lo, h, _ => by simp [sizeL]; omega
  | r :: l, lo, h, ⟨h1, h2, h3, h4⟩ => by
    have := sizeL_bounds l (r.2 + 2) (by omega) h4
    simp only [sizeL]; omega
theorem NormFrom.left : ∀ {l m : List Rg} {lo : Int}, NormFrom lo (l ++ m) → NormFrom lo l
  | [], _, _, _ => trivial
  | _ :: _, _, _, ⟨h1, h2, h3, h4⟩ => ⟨h1, h2, h3, h4.left⟩
theorem NormFrom.take {l : List Rg} {lo : Int} (h : NormFrom lo l) (k : Nat) : NormFrom lo (l.take k) := by
  rw [← List.take_append_drop k l] at h; exact h.left

set_option maxRecDepth 100000 in
set_option maxHeartbeats 800000 in
theorem size_c (va : Value) (a : List Rg) (w : World) (ha : RgAt w va a) (hla : a.length ≤ 4096) :
    Calls Try.prog 42 #[va] w fun e w' => e = .returned (.int .i64 (sizeL (norm a))) ∧ Below w.heap.size w w' := by
  obtain ⟨ao, cap, rfl, _⟩ := ha.shape
  have CA : Hid (Calls Try.prog 61 #[.slice ao a.length cap] w (RetR (norm a) w)) := norm_c _ _ w ha hla
  have HBD : Hid (∀ p ∈ norm a, -200 ≤ p.1 ∧ p.1 ≤ p.2 ∧ p.2 ≤ 200) := norm_bounds a
  have HS : Hid (∀ k, 0 ≤ sizeL ((norm a).take k) ∧ sizeL ((norm a).take k) ≤ 402) := fun k => sizeL_bounds _ (-200) (by decide) ((norm_normal a).take k)
  have hln : (norm a).length ≤ 201 := norm_len a
  clear ha
  generalize hNA : norm a = na at CA hln HBD HS ⊢
  clear hNA
  go_enter Try.func42, Try.ntmps42
  go_wp2_with (first
    | (go_at_call 61; (with_reducible refine CA.out.mono ?_); rintro e W ⟨a1, c1, rfl, hr1, hb1⟩; have HR1 := Lib.hid hr1; have HW := Lib.hid hb1; clear hr1 hb1))
  go_loopw [3, 9] (fun f s wr => ∃ k : Nat, ∃ fz : Int, k ≤ na.length ∧ s = .int .i64 k ∧ f = .int .i64 fz ∧ fz = sizeL (na.take k) ∧ Below W.heap.size W wr) (fun _ s _ => na.length - (intOf s).toNat)
  case atStart => exact ⟨0, 0, by omega, rfl, rfl, rfl, Below.refl _ _⟩
  case round =>
    obtain ⟨k, fz, hk, rfl, rfl, hf, hbel⟩ := hrel
    have hle : W.heap.size ≤ wr.heap.size := hbel.size
    have HB := Lib.hid hbel
    have HF := Lib.hid hf
    have hfb := HS.out k
    rw [← HF.out] at hfb
    obtain ⟨hf1, hf2⟩ := hfb
    clear hbel hf
    by_cases hlt : k < na.length
    · obtain ⟨b, off, c', he, hcap, hbs, hc⟩ := RgAt.at HR1.out (by omega)
      simp only [Value.slice.injEq, true_and] at he
      obtain ⟨rfl, rfl⟩ := he
      obtain ⟨c1, c2⟩ := hc k hlt
      rw [← HB.out.cell (p := ⟨b, off + k * 2, none⟩) hbs] at c1
      rw [← HB.out.cell (p := ⟨b, off + k * 2 + 1, none⟩) hbs] at c2
      have hbd := HBD.out _ (List.getElem_mem hlt)
      have HT : Hid (sizeL (na.take (k + 1)) = fz + (na[k].2 - na[k].1 + 1)) := by
        show _ = _
        rw [List.take_succ_eq_append_getElem hlt, sizeL_append, HF.out]; simp only [sizeL]; omega
      obtain ⟨r, hr⟩ : ∃ r, r = na[k] := ⟨_, rfl⟩
      rw [← hr] at c1 c2 HT hbd
      clear hc hr
      obtain ⟨hd1, hd2, hd3⟩ := hbd
      have hbe : b ≠ wr.heap.size := by have := hbs; omega
      go_wp2
      refine ⟨⟨k + 1, fz + (r.2 - r.1 + 1), by omega, by go_num, by first | rfl | go_num, HT.out.symm, HB.out.alloc hle _⟩, by simp [intOf]; omega⟩
    · obtain rfl : k = na.length := by omega
      go_wp2
      go_ret
      exact ⟨ret_int (by rw [HF.out, List.take_length]), HW.out.trans (HB.out.mono HW.out.size)⟩
end Go.Proofs.Ytkhiogcdamjocaa
