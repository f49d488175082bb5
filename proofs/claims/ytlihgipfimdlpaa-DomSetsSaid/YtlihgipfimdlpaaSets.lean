/-
  The law DomSets, walked.
-/
import Derived.Test.YtlihgipfimdlpaaDomF
import Derived.Test.YtlihgipfimdlpaaMoves
namespace Go.Proofs.Ytlihgipfimdlpaa
open Go.RowKit

set_option maxRecDepth 100000 in
set_option maxHeartbeats 1600000 in
theorem domSets_any (va vb : Value) (a b : List Rg) (w : World) (ha : RgAt w va a) (hb : RgAt w vb b) :
    Calls Try.prog 7 #[va, vb] w fun e w' => e = .returned (.bool true) ∧ Below w.heap.size w w' := by
  obtain ⟨ao, cap, rfl, _⟩ := ha.shape
  obtain ⟨ao2, cap2, rfl, _⟩ := hb.shape
  have CM := Lib.hid (many_c _ _ a b w ha hb)
  cases hm : (decide (100 < a.length) || decide (100 < b.length)) with
  | true =>
    rw [hm] at CM
    go_enter Try.func7, Try.ntmps7
    go_wp2_with (go_at_call 11; (with_reducible refine CM.out.mono ?_); rintro e w' ⟨rfl, rfl⟩)
    go_ret
    exact ⟨rfl, Below.refl _ _⟩
  | false =>
    rw [hm] at CM
    simp only [Bool.or_eq_false_iff, decide_eq_false_iff_not] at hm
    have hla : a.length ≤ 4096 := by omega
    have hlb : b.length ≤ 4096 := by omega
    have hla2 : a.length ≤ 2048 := by omega
    have hlb2 : b.length ≤ 2048 := by omega
    have C1 : Hid (∀ W, Below w.heap.size w W → Calls Try.prog 27 #[.slice ao a.length cap] W (RetR (norm a) W)) := fun W h => norm_c _ a W (ha.below h) hla
    have C2 : Hid (∀ W, Below w.heap.size w W → Calls Try.prog 18 #[.slice ao a.length cap] W (RetR (norm a) W)) := fun W h => refNorm_c _ a W (ha.below h) hla
    have C3 : Hid (∀ W, Below w.heap.size w W → Calls Try.prog 17 #[.slice ao a.length cap, .slice ao2 b.length cap2] W (RetR (meetL a b) W)) := fun W h => meet_c _ _ a b W (ha.below h) (hb.below h) hla hlb
    have C4 : Hid (∀ W, Below w.heap.size w W → Calls Try.prog 28 #[.slice ao a.length cap, .slice ao2 b.length cap2] W (RetR (meetL a b) W)) := fun W h => refMeet_c _ _ a b W (ha.below h) (hb.below h) hla hlb
    have C5 : Hid (∀ W, Below w.heap.size w W → Calls Try.prog 29 #[.slice ao a.length cap, .slice ao2 b.length cap2] W (RetR (joinL a b) W)) := fun W h => join_c _ _ a b W (ha.below h) (hb.below h) hla2 hlb2
    have C6 : Hid (∀ W, Below w.heap.size w W → Calls Try.prog 30 #[.slice ao a.length cap, .slice ao2 b.length cap2] W (RetR (joinL a b) W)) := fun W h => refJoin_c _ _ a b W (ha.below h) (hb.below h) hla hlb
    have C7 : Hid (∀ W, Below w.heap.size w W → Calls Try.prog 31 #[.slice ao a.length cap, .slice ao2 b.length cap2] W (RetR (minusL a b) W)) := fun W h => minus_c _ _ a b W (ha.below h) (hb.below h) hla hlb
    have C8 : Hid (∀ W, Below w.heap.size w W → Calls Try.prog 32 #[.slice ao a.length cap, .slice ao2 b.length cap2] W (RetR (minusL a b) W)) := fun W h => refMinus_c _ _ a b W (ha.below h) (hb.below h) hla hlb
    have C9 : Hid (∀ W, Below w.heap.size w W → Calls Try.prog 33 #[.slice ao a.length cap] W (RetR (complL a) W)) := fun W h => compl_c _ a W (ha.below h) hla
    have C0 : Hid (∀ W, Below w.heap.size w W → Calls Try.prog 34 #[.slice ao a.length cap] W (RetR (complL a) W)) := fun W h => refCompl_c _ a W (ha.below h) hla
    have h1 : (norm a).length ≤ 4096 := Nat.le_trans (canon_len _) (by decide)
    have h2 : (meetL a b).length ≤ 4096 := Nat.le_trans (canon_len _) (by decide)
    have h3 : (joinL a b).length ≤ 4096 := Nat.le_trans (canon_len _) (by decide)
    have h4 : (minusL a b).length ≤ 4096 := Nat.le_trans (canon_len _) (by decide)
    have h5 : (complL a).length ≤ 4096 := Nat.le_trans (canon_len _) (by decide)
    clear ha hb
    generalize norm a = x0 at *
    generalize meetL a b = x1 at *
    generalize joinL a b = x2 at *
    generalize minusL a b = x3 at *
    generalize complL a = x4 at *
    have B0 : Hid (Below w.heap.size w w) := Below.refl _ _
    go_enter Try.func7, Try.ntmps7
    go_wp2_with (first
    | (go_at_call 11; (with_reducible refine CM.out.mono ?_); rintro e w' ⟨rfl, rfl⟩)
    | (go_at_call 27; (with_reducible refine (C1.out _ B0.out).mono ?_); rintro e Wa1 ⟨aaa1, cca1, rfl, ra1, ba1⟩; have B1 := Lib.hid (B0.out.trans (ba1.mono B0.out.size)); have Ra10 := Lib.hid ra1; clear ra1 ba1)
    | (go_at_call 18; (with_reducible refine (C2.out _ B1.out).mono ?_); rintro e Wa2 ⟨aaa2, cca2, rfl, ra2, ba2⟩; have B2 := Lib.hid (B1.out.trans (ba2.mono B1.out.size)); have Ra21 := Lib.hid ra2; have Ra11 := Lib.hid (Ra10.out.below ba2); clear ra2 ba2)
    | (go_at_call 12; (with_reducible refine (same_t _ _ _ _ Ra11.out Ra21.out h1).mono ?_); rintro e w' ⟨rfl, q, rfl⟩; have B3 := Lib.hid (below_drewN B2.out q))
    | (go_at_call 17; (with_reducible refine (C3.out _ B3.out).mono ?_); rintro e Wa3 ⟨aaa3, cca3, rfl, ra3, ba3⟩; have B4 := Lib.hid (B3.out.trans (ba3.mono B3.out.size)); have Ra33 := Lib.hid ra3; clear ra3 ba3)
    | (go_at_call 28; (with_reducible refine (C4.out _ B4.out).mono ?_); rintro e Wa4 ⟨aaa4, cca4, rfl, ra4, ba4⟩; have B5 := Lib.hid (B4.out.trans (ba4.mono B4.out.size)); have Ra44 := Lib.hid ra4; have Ra34 := Lib.hid (Ra33.out.below ba4); clear ra4 ba4)
    | (go_at_call 12; (with_reducible refine (same_t _ _ _ _ Ra34.out Ra44.out h2).mono ?_); rintro e w' ⟨rfl, q, rfl⟩; have B6 := Lib.hid (below_drewN B5.out q))
    | (go_at_call 29; (with_reducible refine (C5.out _ B6.out).mono ?_); rintro e Wa5 ⟨aaa5, cca5, rfl, ra5, ba5⟩; have B7 := Lib.hid (B6.out.trans (ba5.mono B6.out.size)); have Ra56 := Lib.hid ra5; clear ra5 ba5)
    | (go_at_call 30; (with_reducible refine (C6.out _ B7.out).mono ?_); rintro e Wa6 ⟨aaa6, cca6, rfl, ra6, ba6⟩; have B8 := Lib.hid (B7.out.trans (ba6.mono B7.out.size)); have Ra67 := Lib.hid ra6; have Ra57 := Lib.hid (Ra56.out.below ba6); clear ra6 ba6)
    | (go_at_call 12; (with_reducible refine (same_t _ _ _ _ Ra57.out Ra67.out h3).mono ?_); rintro e w' ⟨rfl, q, rfl⟩; have B9 := Lib.hid (below_drewN B8.out q))
    | (go_at_call 31; (with_reducible refine (C7.out _ B9.out).mono ?_); rintro e Wa7 ⟨aaa7, cca7, rfl, ra7, ba7⟩; have B10 := Lib.hid (B9.out.trans (ba7.mono B9.out.size)); have Ra79 := Lib.hid ra7; clear ra7 ba7)
    | (go_at_call 32; (with_reducible refine (C8.out _ B10.out).mono ?_); rintro e Wa8 ⟨aaa8, cca8, rfl, ra8, ba8⟩; have B11 := Lib.hid (B10.out.trans (ba8.mono B10.out.size)); have Ra810 := Lib.hid ra8; have Ra710 := Lib.hid (Ra79.out.below ba8); clear ra8 ba8)
    | (go_at_call 12; (with_reducible refine (same_t _ _ _ _ Ra710.out Ra810.out h4).mono ?_); rintro e w' ⟨rfl, q, rfl⟩; have B12 := Lib.hid (below_drewN B11.out q))
    | (go_at_call 33; (with_reducible refine (C9.out _ B12.out).mono ?_); rintro e Wa9 ⟨aaa9, cca9, rfl, ra9, ba9⟩; have B13 := Lib.hid (B12.out.trans (ba9.mono B12.out.size)); have Ra912 := Lib.hid ra9; clear ra9 ba9)
    | (go_at_call 34; (with_reducible refine (C0.out _ B13.out).mono ?_); rintro e Wa0 ⟨aaa0, cca0, rfl, ra0, ba0⟩; have B14 := Lib.hid (B13.out.trans (ba0.mono B13.out.size)); have Ra013 := Lib.hid ra0; have Ra913 := Lib.hid (Ra912.out.below ba0); clear ra0 ba0)
    | (go_at_call 12; (with_reducible refine (same_t _ _ _ _ Ra913.out Ra013.out h5).mono ?_); rintro e w' ⟨rfl, q, rfl⟩; have B15 := Lib.hid (below_drewN B14.out q)))
    go_ret
    exact ⟨rfl, B15.out⟩
end Go.Proofs.Ytlihgipfimdlpaa
