/-
  FixComes, walked.
-/
import Derived.Test.YtajooiainglpmaaGreatKflaw1
import Derived.Test.YtajooiainglpmaaGreatKoncea7
namespace Go.Proofs.YtajooiainglpmaaGreat
open Go.RowKit

theorem refFix_r {ds : Ds} {ps : List PL} {vds vps : Value} {w : World} (hd : DsAt w vds ds) (hp : PsAt w vps ps) (hin : FixIn ds ps) {R : Option Ds} (hR : FixOf ps ds R) : Calls Tryz.prog 23 #[vds, vps] w (RetO R w) :=
  (refFix_c ds ps vds vps w hd hp hin).mono fun _ _ ⟨_, h1, h2⟩ => by rw [fixOf_unique hR h1]; exact h2
set_option maxRecDepth 100000 in
set_option maxHeartbeats 3200000 in
theorem fixComes_any (vds vps : Value) (ds : Ds) (ps : List PL) (w : World) (hd : DsAt w vds ds) (hp : PsAt w vps ps) :
    Calls Tryz.prog 6 #[vds, vps] w fun e w' => e = .returned (.bool true) ∧ Below w.heap.size w w' := by
  have CR := Lib.hid (right17_c vds vps ds ps w hd hp)
  have HD := Lib.hid hd
  have HP := Lib.hid hp
  obtain ⟨a0, c0, rfl, _⟩ := hd.shape
  obtain ⟨a1, c1, rfl, _⟩ := hp.shape
  clear hd hp
  cases hr : right17 ds ps with
  | false =>
    rw [hr] at CR
    have CK := Lib.hid fixCheck_p0
    go_enter Tryz.func6, Tryz.ntmps6
    go_wp2_with (first
      | (go_at_call 25; (with_reducible refine CR.out.mono ?_); rintro e W1 ⟨rfl, bb⟩; have B1 := Lib.hid bb; clear bb)
      | (go_at_call 26; (with_reducible refine (CK.out _ _).mono ?_); rintro e W2 ⟨rfl, bb⟩; have B2 := Lib.hid (B1.out.trans (bb.mono B1.out.size)); clear bb))
    go_ret
    exact ⟨rfl, B2.out⟩
  | true =>
    rw [hr] at CR
    have hin := right17_in hr
    obtain ⟨R, hR⟩ := fixOf_exists (ps := ps) (D := ds) (fun p hp => (hin.fine p hp).good)
    have CF : Hid (∀ W, Below w.heap.size w W → Calls Tryz.prog 22 #[.slice a0 ds.length c0, .slice a1 ps.length c1] W (RetO R W)) := fun W h => fix_r (HD.out.below h) (HP.out.below h) hin hR
    have CG : Hid (∀ W, Below w.heap.size w W → Calls Tryz.prog 23 #[.slice a0 ds.length c0, .slice a1 ps.length c1] W (RetO R W)) := fun W h => refFix_r (HD.out.below h) (HP.out.below h) hin hR
    have HIN := Lib.hid hin
    clear hr hin
    cases R with
    | none =>
      have CF1 : Hid (∀ W, Below w.heap.size w W → Calls Tryz.prog 22 #[.slice a0 ds.length c0, .slice a1 ps.length c1] W fun e W' => e = .returned (.tuple #[.slice none 0 0, .bool false]) ∧ Below W.heap.size W W') := fun W h => (CF.out W h).mono fun e W' ⟨hb, hh⟩ => by
        rcases hh with ⟨_, _, _, h1, _⟩ | ⟨_, h1⟩
        · cases h1
        · exact ⟨h1, hb⟩
      have CG1 : Hid (∀ W, Below w.heap.size w W → Calls Tryz.prog 23 #[.slice a0 ds.length c0, .slice a1 ps.length c1] W fun e W' => e = .returned (.tuple #[.slice none 0 0, .bool false]) ∧ Below W.heap.size W W') := fun W h => (CG.out W h).mono fun e W' ⟨hb, hh⟩ => by
        rcases hh with ⟨_, _, _, h1, _⟩ | ⟨_, h1⟩
        · cases h1
        · exact ⟨h1, hb⟩
      have CS : Hid (∀ W, Calls Tryz.prog 24 #[.slice none 0 0, .slice none 0 0] W fun e W' => e = .returned (.bool true) ∧ Below W.heap.size W W') := fun W => (same17_c _ _ [] [] W DsAt.nil DsAt.nil (by simp) (fun d hd => by simp at hd)).mono fun e W' ⟨h1, h2⟩ => ⟨by rw [h1]; rfl, h2⟩
      clear CF CG
      go_enter Tryz.func6, Tryz.ntmps6
      go_wp2_with (first
        | (go_at_call 25; (with_reducible refine CR.out.mono ?_); rintro e W1 ⟨rfl, bb⟩; have B1 := Lib.hid bb; clear bb)
        | (go_at_call 22; (with_reducible refine (CF1.out _ B1.out).mono ?_); rintro e W2 ⟨rfl, bb⟩; have B2 := Lib.hid (B1.out.trans (bb.mono B1.out.size)); clear bb)
        | (go_at_call 23; (with_reducible refine (CG1.out _ B2.out).mono ?_); rintro e W3 ⟨rfl, bb⟩; have B3 := Lib.hid (B2.out.trans (bb.mono B2.out.size)); clear bb)
        | (go_at_call 24; (with_reducible refine (CS.out _).mono ?_); rintro e W4 ⟨rfl, bb⟩; have B4 := Lib.hid (B3.out.trans (bb.mono B3.out.size)); clear bb))
      go_ret
      exact ⟨rfl, B4.out⟩
    | some r =>
      have CF1 : Hid (∀ W, Below w.heap.size w W → Calls Tryz.prog 22 #[.slice a0 ds.length c0, .slice a1 ps.length c1] W fun e W' => ∃ ao cap, e = .returned (.tuple #[.slice ao r.length cap, .bool true]) ∧ DsAt W' (.slice ao r.length cap) r ∧ Below W.heap.size W W') := fun W h => (CF.out W h).mono fun e W' ⟨hb, hh⟩ => by
        rcases hh with ⟨_, ao, cap, h1, h2, h3⟩ | ⟨h1, _⟩
        · cases h1; exact ⟨ao, cap, h2, h3, hb⟩
        · cases h1
      have CG1 : Hid (∀ W, Below w.heap.size w W → Calls Tryz.prog 23 #[.slice a0 ds.length c0, .slice a1 ps.length c1] W fun e W' => ∃ ao cap, e = .returned (.tuple #[.slice ao r.length cap, .bool true]) ∧ DsAt W' (.slice ao r.length cap) r ∧ Below W.heap.size W W') := fun W h => (CG.out W h).mono fun e W' ⟨hb, hh⟩ => by
        rcases hh with ⟨_, ao, cap, h1, h2, h3⟩ | ⟨h1, _⟩
        · cases h1; exact ⟨ao, cap, h2, h3, hb⟩
        · cases h1
      have CF2 : Hid (∀ W v, Below w.heap.size w W → DsAt W v r → Calls Tryz.prog 22 #[v, .slice a1 ps.length c1] W fun e W' => ∃ ao cap, e = .returned (.tuple #[.slice ao r.length cap, .bool true]) ∧ DsAt W' (.slice ao r.length cap) r ∧ Below W.heap.size W W') := fun W v h hv => (fix_r hv (HP.out.below h) (HIN.out.res hR) (fixOf_again hR)).mono fun e W' ⟨hb, hh⟩ => by
        rcases hh with ⟨_, ao, cap, h1, h2, h3⟩ | ⟨h1, _⟩
        · cases h1; exact ⟨ao, cap, h2, h3, hb⟩
        · cases h1
      have CS : Hid (∀ W u v, DsAt W u r → DsAt W v r → Calls Tryz.prog 24 #[u, v] W fun e W' => e = .returned (.bool true) ∧ Below W.heap.size W W') := fun W u v hu hv => (same17_c u v r r W hu hv (by have := HIN.out.n; have := hR.1.len; omega) (allN_short' hR.1.nor)).mono fun e W' ⟨h1, h2⟩ => ⟨by rw [h1]; simp, h2⟩
      clear CF CG hR
      go_enter Tryz.func6, Tryz.ntmps6
      go_upto_region 9 with (first
        | (go_at_call 25; (with_reducible refine CR.out.mono ?_); rintro e W1 ⟨rfl, bb⟩; have B1 := Lib.hid bb; clear bb)
        | (go_at_call 22; (with_reducible refine (CF1.out _ B1.out).mono ?_); rintro e W2 ⟨a2, c2, rfl, d2, bb⟩; have D2 := Lib.hid d2; have B2 := Lib.hid (B1.out.trans (bb.mono B1.out.size)); clear bb d2)
        | (go_at_call 23; (with_reducible refine (CG1.out _ B2.out).mono ?_); rintro e W3 ⟨a3, c3, rfl, d3, bb⟩; have D3 := Lib.hid d3; have E3 := Lib.hid (D2.out.below bb); have B3 := Lib.hid (B2.out.trans (bb.mono B2.out.size)); clear bb d3)
        | (go_at_call 24; (with_reducible refine (CS.out _ _ _ E3.out D3.out).mono ?_); rintro e W4 ⟨rfl, bb⟩; have E4 := Lib.hid (E3.out.below bb); have B4 := Lib.hid (B3.out.trans (bb.mono B3.out.size)); clear bb))
      go_wp2_with (first
        | (go_at_call 22; (with_reducible refine (CF2.out _ _ B4.out E4.out).mono ?_); rintro e W5 ⟨a5, c5, rfl, d5, bb⟩; have D5 := Lib.hid d5; have E5 := Lib.hid (E4.out.below bb); have B5 := Lib.hid (B4.out.trans (bb.mono B4.out.size)); clear bb d5)
        | (go_at_call 24; (with_reducible refine (CS.out _ _ _ D5.out E5.out).mono ?_); rintro e W6 ⟨rfl, bb⟩; have B6 := Lib.hid (B5.out.trans (bb.mono B5.out.size)); clear bb))
      go_ret
      exact ⟨rfl, B6.out⟩
end Go.Proofs.YtajooiainglpmaaGreat
