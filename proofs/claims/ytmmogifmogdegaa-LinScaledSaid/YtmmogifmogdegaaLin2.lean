/-
  lin.parts, lin.Sums, lin.Says, walked.
-/
import Derived.Test.YtmmogifmogdegaaLin1
import Derived.Test.YtmmogifmogdegaaLinQ
import Derived.Test.YtmmogifmogdegaaApp
namespace Go.Proofs.Ytmmogifmogdegaa
open Go.RowKit

theorem Try.infoSpan : (Try.prog.info? 54).map (fun i => (i.zero, i.size, i.bytes)) = some (some (.agg #[.int .i64 0, .int .i64 0]), 2, 16) := by kernel_rfl

/-- what parts hands back -/
def RetP (ds : Ds) (ps : Ps) (w : World) (e : Ending) (w' : World) : Prop :=
  Below w.heap.size w w' ∧
    ((allOk ds ps = true ∧ ∃ ao cap, e = .returned (.tuple #[.slice ao ps.length cap, .agg #[.int .i64 (loS ds ps), .int .i64 (hiS ds ps)], .bool true]) ∧ RgAt w' (.slice ao ps.length cap) (spans ds ps)) ∨
     (allOk ds ps = false ∧ e = .returned (.tuple #[.slice none 0 0, .agg #[.int .i64 0, .int .i64 0], .bool false])))

set_option maxRecDepth 100000 in
set_option maxHeartbeats 1600000 in
theorem parts_c (va vb vds : Value) (rel c : Int) (coef vars : List Int) (ds : Ds) (w : World) (h0 : IsAt w va coef) (h1 : IsAt w vb vars) (hd : DsAt w vds ds) (hg : GoodL coef vars ds) :
    Calls Try.prog 25 #[.agg #[va, vb, .int .i64 rel, .int .i64 c], vds] w (RetP ds (coef.zip vars) w) := by
  obtain ⟨i0, hi, hz0, hz1, hz2⟩ := info_parts Try.infoSpan
  obtain ⟨a0, c0, rfl, _⟩ := IsAt.shape h0
  obtain ⟨a1, c1, rfl, _⟩ := IsAt.shape h1
  obtain ⟨a2, c2, rfl, _⟩ := hd.shape
  have HC := Lib.hid (row_facts h0 h1 hd hg)
  have HB := Lib.hid (sums_bnd hg)
  have HS := Lib.hid (sums_step hg)
  have hn := Lib.hid hg.len
  have hn2 := Lib.hid hg.zip_len
  have hn16 := hg.le16
  clear h0 h1 hd
  generalize hps : coef.zip vars = ps at *
  clear hps
  go_enter Try.func25, Try.ntmps25
  go_wp2
  have BZ : Hid (Below w.heap.size w (((w.alloc (.cells #[.slice a0 coef.length c0, .slice a1 vars.length c1, .int .i64 rel, .int .i64 c] 24)).alloc (.cells #[.int .i64 0, .int .i64 0] 54)).alloc (.cells #[.int .i64 0, .int .i64 0] 54))) := by
    show Below _ _ _
    go_grown
  go_loopw [7, 16] (fun o s wr => ∃ k : Nat, k ≤ ps.length ∧ s = .int .i64 k ∧ wr.ownsRow (w.heap.size + 1 + 1 + 1) 54 2 o k (cellsR (spans ds (ps.take k))) ∧ Below w.heap.size w wr ∧ Box2 wr (w.heap.size + 1 + 1) (.int .i64 (loS ds (ps.take k))) (.int .i64 (hiS ds (ps.take k))) ∧ Box2 wr (w.heap.size + 1) (.int .i64 0) (.int .i64 0)
      ∧ Hid (wr.cell? ⟨w.heap.size, 0, none⟩ = some (.slice a0 coef.length c0) ∧ wr.cell? ⟨w.heap.size, 1, none⟩ = some (.slice a1 vars.length c1)) ∧ Hid (allOk ds (ps.take k) = true)) (fun _ s _ => ps.length - (intOf s).toNat)
  case atStart => exact ⟨0, by omega, rfl, World.ownsRow_nil _ _ _ _, BZ.out, (by rw [show loS ds (ps.take 0) = 0 by simp [loS], show hiS ds (ps.take 0) = 0 by simp [hiS]]; exact ⟨by go_simp, by go_simp, by go_simp, by go_simp⟩), ⟨by go_simp, by go_simp, by go_simp, by go_simp⟩, Lib.hid ⟨by go_simp, by go_simp⟩, rfl⟩
  case round =>
    obtain ⟨k, hk, rfl, hown, hbel, hbx, hrx, HL, HA⟩ := hrel
    have HB1 := Lib.hid hbel
    have HX := Lib.hid hbx
    have HR := Lib.hid hrx
    have hle := hbel.size
    have hxl := hbx.lt
    clear hbel hbx hrx
    by_cases hlt : k < ps.length
    · have hltv : k < vars.length := by have := hn.out; have := hn2.out; omega
      obtain ⟨b0, o0, b1, o1', b2, o2, n, ao, cap, cf, d, ⟨rfl, rfl, rfl⟩, ⟨l0, l1, l2⟩, ⟨q0, q1, q2⟩, hnn, x0, x1, x2, x3, e1, e2, hdl, hc1, hc2⟩ := HC.out k hlt
      have j1 : (k : Int) < coef.length := by have := hn.out; omega
      have j2 : (k : Int) < vars.length := by omega
      have j3 : (n : Int) < ds.length := by omega
      obtain ⟨t1, t2, t3, t4, t5⟩ := HS.out k hlt cf n d e1 e2
      have T1 := Lib.hid t1; have T2 := Lib.hid t2; have T3 := Lib.hid t3; have T4 := Lib.hid t4; have T5 := Lib.hid t5
      have hb1 := HB.out k
      have hb2 := loT_bnd cf d ⟨hc1, hc2⟩
      obtain ⟨⟨y1, y2⟩, ⟨y3, y4⟩⟩ := hb1
      obtain ⟨⟨y5, y6⟩, ⟨y7, y8⟩⟩ := hb2
      rw [← HB1.out.cell (p := ⟨b0, o0 + k, none⟩) q0] at x0
      rw [← HB1.out.cell (p := ⟨b1, o1' + k, none⟩) q1] at x1
      rw [← HB1.out.cell (p := ⟨b2, o2 + n, none⟩) q2] at x2
      have CP : Hid (∀ W, Below wr.heap.size wr W → Calls Try.prog 38 #[.int .i64 cf, .slice ao d.length cap] W fun e w' => e = .returned (.tuple #[.agg #[.int .i64 (loT cf d), .int .i64 (hiT cf d)], .bool (okT d)]) ∧ Below W.heap.size W w') :=
        fun W h => part_c _ cf d W (x3.below (HB1.out.trans (h.mono hle))) hdl ⟨hc1, hc2⟩
      obtain ⟨z0, z1⟩ := HL.out
      clear t1 t2 t3 t4 t5 x3 e1 e2
      generalize loT cf d = tlo at *
      generalize hiT cf d = thi at *
      generalize okT d = ok at *
      generalize spans ds (ps.take k) = O at *
      generalize loS ds (ps.take k) = slo at *
      generalize hiS ds (ps.take k) = shi at *
      have HSW : Hid (∀ W', Below wr.heap.size wr W' → W'.cell? ⟨w.heap.size, 0, none⟩ = some (.slice (some ⟨b0, o0, none⟩) coef.length c0) ∧ W'.cell? ⟨w.heap.size, 1, none⟩ = some (.slice (some ⟨b1, o1', none⟩) vars.length c1) ∧ W'.cell? ⟨b0, o0 + k, none⟩ = some (.int .i64 cf) ∧ W'.cell? ⟨b1, o1' + k, none⟩ = some (.int .i64 (n : Int)) ∧ W'.cell? ⟨b2, o2 + n, none⟩ = some (.slice ao d.length cap)) := fun W' h =>
        ⟨(h.cell (p := ⟨w.heap.size, 0, none⟩) (by simp; omega)).trans z0, (h.cell (p := ⟨w.heap.size, 1, none⟩) (by simp; omega)).trans z1, (h.cell (p := ⟨b0, o0 + k, none⟩) (by simp; omega)).trans x0, (h.cell (p := ⟨b1, o1' + k, none⟩) (by simp; omega)).trans x1, (h.cell (p := ⟨b2, o2 + n, none⟩) (by simp; omega)).trans x2⟩
      go_wp2
      go_upto_region 6 with fail
      go_cut [10, 11] (fun p q wx => ∃ B, p = .pointer (some ⟨B, 0, none⟩) ∧ q = .bool ok ∧ wr.heap.size ≤ B ∧ Box2 wx B (.int .i64 tlo) (.int .i64 thi) ∧ Below wr.heap.size wr wx)
      case first =>
        go_region_held3 (fun W' => W'.cell? ⟨w.heap.size, 0, none⟩ = some (.slice (some ⟨b0, o0, none⟩) coef.length c0) ∧ W'.cell? ⟨w.heap.size, 1, none⟩ = some (.slice (some ⟨b1, o1', none⟩) vars.length c1) ∧ W'.cell? ⟨b0, o0 + k, none⟩ = some (.int .i64 cf) ∧ W'.cell? ⟨b1, o1' + k, none⟩ = some (.int .i64 (n : Int)) ∧ W'.cell? ⟨b2, o2 + n, none⟩ = some (.slice ao d.length cap)) ((refine HSW.out _ ?_; go_grown))
          (first | (go_at_call 38; refine (CP.out _ ?_).mono ?_; (· go_grown); rintro e W1 ⟨rfl, bb⟩; have bw : Below wr.heap.size wr W1 := Below.trans (by go_grown) (bb.mono (by simp)); have bwl := bw.size; (try (obtain ⟨q0, q1, q2, q3⟩ := Box2.later bb; have QB := Lib.hid (Box2.later bb))); clear bb))
        · go_wp2_with fail
          go_meet
          exact ⟨W1.heap.size, rfl, rfl, bwl, Box2.mk' _ _ _ _, by go_grown⟩
        · go_wp2_with fail
          go_meet
          exact ⟨wr.heap.size, rfl, rfl, Nat.le_refl _, (QB.out.set0 _).set1 _, by go_grown⟩
      case rest =>
        obtain ⟨B, rfl, rfl, hB, hBx, hbW⟩ := hcut
        have hbl := hbW.size
        have HX2 := Lib.hid (HX.out.past hbW)
        have HR2 := Lib.hid (HR.out.past hbW)
        have HB2 := Lib.hid (HB1.out.trans (hbW.mono hle))
        have hown2 := own_below hown hbW
        have HW := Lib.hid hbW
        have NE := own_far hown hB
        have PB := Lib.hid hBx
        obtain ⟨p0, p1, _, _⟩ := hBx
        clear hown hbW HSW CP
        cases ok
        · obtain ⟨r0, r1, r2, r3⟩ := HR2.out
          go_wp2
          have s0 := (HR2.out.set0 (.int .i64 0)).c0
          have s1 := ((HR2.out.set0 (.int .i64 0)).set1 (.int .i64 0)).c1
          (try simp only [Exit.inBlock, Exit.then])
          refine bodyPost_ret (v := .tuple #[.slice none 0 0, .agg #[.int .i64 0, .int .i64 0], .bool false]) ?_ rfl ⟨(HB2.out.setCell (p := ⟨w.heap.size + 1, 0, none⟩) (Nat.le_succ _) _).setCell (p := ⟨w.heap.size + 1, 1, none⟩) (Nat.le_succ _) _, .inr ⟨T5.out (by first | rfl | trivial), rfl⟩⟩
          simp [results, Try.results25, go_sem, s0, s1]
        · go_wp2_with (at_builtin; refine wpList_appendK rfl (.tmp 39) (.tmp 41) 52 rfl (w.heap.size + 1 + 1 + 1) 54 i0 (.agg #[.int .i64 0, .int .i64 0]) 2 16 Try.underlying52 hi hz0 hz1 hz2 rfl (by decide) _ _ _ rfl hown2 _ rfl rfl (one2 rfl rfl) (by omega) (by omega) ?_; intro v1 w1 o1 b1 k1 _; have X3 := Lib.hid (HX2.out.kept k1 (own_ne hown2 (Nat.lt_succ_self _))); have R3 := Lib.hid (HR2.out.kept k1 (own_ne hown2 (Nat.lt_succ_of_lt (Nat.lt_succ_self _)))); have P3 := Lib.hid (PB.out.kept k1 NE); obtain ⟨g0, g1, g2, g3⟩ := X3.out; obtain ⟨m0, m1, _, _⟩ := P3.out; have B3 := Lib.hid b1; have K3 := Lib.hid k1; clear b1 k1)
          have hw1 := B3.out.size
          have own3 := own_setCell (own_setCell o1 (a := ⟨w.heap.size + 1 + 1, 0, none⟩) (Nat.lt_succ_self _) (.int .i64 (slo + tlo))) (a := ⟨w.heap.size + 1 + 1, 1, none⟩) (Nat.lt_succ_self _) (.int .i64 (shi + thi))
          have LW : wc.cell? ⟨w.heap.size, 0, none⟩ = some (.slice (some ⟨b0, o0, none⟩) coef.length c0) ∧ wc.cell? ⟨w.heap.size, 1, none⟩ = some (.slice (some ⟨b1, o1', none⟩) vars.length c1) :=
            ⟨(HW.out.cell (p := ⟨w.heap.size, 0, none⟩) (by simp; omega)).trans z0, (HW.out.cell (p := ⟨w.heap.size, 1, none⟩) (by simp; omega)).trans z1⟩
          refine ⟨⟨k + 1, by omega, by go_num, ?_, ?_, ?_, ?_, ?_, ?_⟩, by simp [intOf]; omega⟩
          · rw [T3.out, cellsR_append]; exact own3
          · exact ((HB2.out.trans (B3.out.mono (by omega))).setCell (p := ⟨w.heap.size + 1 + 1, 0, none⟩) (by simp; omega) _).setCell (p := ⟨w.heap.size + 1 + 1, 1, none⟩) (by simp; omega) _
          · rw [T1.out, T2.out]; exact (X3.out.set0 _).set1 _
          · exact (R3.out.far (a := ⟨w.heap.size + 1 + 1, 0, none⟩) (by simp) _).far (a := ⟨w.heap.size + 1 + 1, 1, none⟩) (by simp) _
          · exact Lib.hid ⟨cell_far (cell_far (K3.out.cell LW.1 (own_ne hown2 (Nat.lt_succ_of_lt (Nat.lt_succ_of_lt (Nat.lt_succ_self _))))) (by simp; omega) _) (by simp; omega) _, cell_far (cell_far (K3.out.cell LW.2 (own_ne hown2 (Nat.lt_succ_of_lt (Nat.lt_succ_of_lt (Nat.lt_succ_self _))))) (by simp; omega) _) (by simp; omega) _⟩
          · exact T4.out HA.out (by first | rfl | trivial)
    · obtain rfl : k = ps.length := by omega
      have hltv : ¬ ps.length < vars.length := by have := hn.out; have := hn2.out; omega
      rw [List.take_length] at hown HX HA
      obtain ⟨oa, oc, rfl, _⟩ := (SlAt.of_own hown).shape
      have e := Lib.hid (spans_length ds ps)
      have own3 := Lib.hid (own_setCell (own_setCell hown (a := ⟨w.heap.size + 1, 0, none⟩) (Nat.lt_succ_of_lt (Nat.lt_succ_self _)) (.int .i64 (loS ds ps))) (a := ⟨w.heap.size + 1, 1, none⟩) (Nat.lt_succ_of_lt (Nat.lt_succ_self _)) (.int .i64 (hiS ds ps)))
      obtain ⟨g0, g1, g2, g3⟩ := HX.out
      obtain ⟨r0, r1, r2, r3⟩ := HR.out
      have s0 := (HR.out.set0 (.int .i64 (loS ds ps))).c0
      have s1 := ((HR.out.set0 (.int .i64 (loS ds ps))).set1 (.int .i64 (hiS ds ps))).c1
      clear hown
      generalize hS : spans ds ps = S at *
      generalize hlo : loS ds ps = slo at *
      generalize hhi : hiS ds ps = shi at *
      have HS3 := Lib.hid hS; have Hlo := Lib.hid hlo; have Hhi := Lib.hid hhi
      clear hS hlo hhi
      go_wp2
      go_region
      all_goals
        (try go_wp2)
        (try simp only [Exit.inBlock, Exit.then])
        refine bodyPost_ret (v := .tuple #[.slice oa ps.length oc, .agg #[.int .i64 slo, .int .i64 shi], .bool true]) ?_ rfl ⟨?_, .inl ⟨HA.out, oa, oc, by rw [Hlo.out, Hhi.out], ?_⟩⟩
        · simp [results, Try.results25, go_sem, s0, s1]
        · exact (((HB1.out.setCell (p := ⟨w.heap.size + 1, 0, none⟩) (Nat.le_succ _) _).setCell (p := ⟨w.heap.size + 1, 1, none⟩) (Nat.le_succ _) _)).drew
        · have := SlAt.of_own own3.out
          unfold RgAt
          rw [HS3.out, e.out]
          exact this
end Go.Proofs.Ytmmogifmogdegaa
