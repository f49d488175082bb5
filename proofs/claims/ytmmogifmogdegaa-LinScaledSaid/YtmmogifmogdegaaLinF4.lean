/-
  The reference's joined of layer 15, walked.
-/
import Derived.Test.YtmmogifmogdegaaLinG
import Derived.Test.YtmmogifmogdegaaRg
import Derived.Test.YtmmogifmogdegaaRefA
namespace Go.Proofs.Ytmmogifmogdegaa
open Go.RowKit

set_option maxRecDepth 100000 in
set_option maxHeartbeats 1600000 in
theorem joined_c (va : Value) (G : List Rg) (w : World) (ha : RgAt w va G) (hla : G.length ≤ 401) (hG : ∀ r ∈ G, -200 ≤ r.2 ∧ r.2 ≤ 200) :
    Calls Try.prog 33 #[va] w (RetR (glueL G) w) := by
  obtain ⟨i0, hi, hz0, hz1, hz2⟩ := info_parts Try.infoRg
  obtain ⟨ao, cap, rfl, _⟩ := ha.shape
  have HA := Lib.hid ha
  have HG := Lib.hid hG
  clear ha hG
  go_enter Try.func33, Try.ntmps33
  go_wp2
  go_loopw [3, 4] (fun o s wr => ∃ k : Nat, k ≤ G.length ∧ s = .int .i64 k ∧ wr.ownsRow w.heap.size 60 2 o (glueL (G.take k)).length (cellsR (glueL (G.take k))) ∧ Below w.heap.size w wr) (fun _ s _ => G.length - (intOf s).toNat)
  case atStart => exact ⟨0, by omega, rfl, World.ownsRow_made w #[] 0 (Nat.le_refl _) (by decide) rfl, (Below.refl _ _).alloc (Nat.le_refl _) _⟩
  case round =>
    obtain ⟨k, hk, rfl, hown, hbel⟩ := hrel
    have HB := Lib.hid hbel
    have hle := hbel.size
    have hol : (glueL (G.take k)).length ≤ 401 := by
      have h1 := glueL_len (G.take k)
      have h2 : (G.take k).length ≤ k := List.length_take_le ..
      omega
    clear hbel
    by_cases hlt : k < G.length
    · obtain ⟨b, off, c', he, hcap, hbs, hc⟩ := RgAt.at HA.out (by omega)
      simp only [Value.slice.injEq, true_and] at he
      obtain ⟨rfl, rfl⟩ := he
      obtain ⟨c1, c2⟩ := hc k hlt
      rw [← HB.out.cell (p := ⟨b, off + k * 2, none⟩) hbs] at c1
      rw [← HB.out.cell (p := ⟨b, off + k * 2 + 1, none⟩) hbs] at c2
      have j1 : (k : Int) < G.length := by omega
      have hbd := HG.out _ (List.getElem_mem hlt)
      have hob := glueL_bnd (G.take k) (fun r hr => HG.out r (List.mem_of_mem_take hr))
      have HT := glueL_snoc (G.take k) G[k]
      rw [← List.take_succ_eq_append_getElem hlt] at HT
      obtain ⟨r, hr⟩ : ∃ r, r = G[k] := ⟨_, rfl⟩
      rw [← hr] at c1 c2 HT hbd
      clear hc hr
      obtain ⟨hd1, hd2⟩ := hbd
      generalize glueL (G.take k) = O at *
      rcases List.eq_nil_or_concat O with rfl | ⟨M, p, rfl⟩
      · rw [glue_nil] at HT
        have HT := Lib.hid HT
        obtain ⟨oa, oc, rfl, _⟩ := (SlAt.of_own hown).shape
        rw [show ([] : List Rg).length = 0 from rfl] at hown ⊢
        clear hob
        have hdz : decide ((0 : Nat) > 0) = false := rfl
        go_wp2
        go_quiet (fail)
        have hown2 : (wr.drewN nq).ownsRow w.heap.size 60 2 (.slice oa 0 oc) 0 (cellsR []) := hown
        have HB2 : Hid (Below w.heap.size w (wr.drewN nq)) := below_drewN HB.out _
        have hle2 : w.heap.size ≤ (wr.drewN nq).heap.size := hle
        have d1 : (wr.drewN nq).cell? ⟨b, off + k * 2, none⟩ = some (.int .i64 r.1) := c1
        have d2 : (wr.drewN nq).cell? ⟨b, off + k * 2 + 1, none⟩ = some (.int .i64 r.2) := c2
        clear c1 c2 hown
        generalize wr.drewN nq = w2 at *
        go_wp2_with (at_builtin; refine wpList_append2 rfl (.tmp 42) (.tmp 47) 29 rfl w.heap.size 60 i0 (.agg #[.int .i64 0, .int .i64 0]) 16 Try.underlying29 hi hz0 hz1 hz2 rfl _ _ _ rfl hown2 _ _ rfl rfl rfl rfl (by omega) hle2 ?_; intro v1 w1 o1 bw n1)
        refine ⟨⟨k + 1, by omega, by go_num, ?_, HB2.out.trans bw⟩, by simp [intOf]; omega⟩
        rw [HT.out]; exact o1
      · rw [List.concat_eq_append] at *
        rw [glue_snoc] at HT
        obtain ⟨g, oc, rfl, hgb, hcells⟩ := owns_pos hown (by simp)
        have gf := hown.frozenAt (M.length * 2 + 1)
        have HQ := Lib.hid (hown.stored (M.length * 2 + 1) (.int .i64 r.2))
        have g1 := hcells (M.length * 2 + 1) (by simp; omega)
        rw [(cellsR_at (M ++ [p]) M.length (by simp)).2] at g1
        have hML : (M ++ [p]).length = M.length + 1 := by simp
        have hpe : (M ++ [p])[M.length] = p := by simp
        rw [hpe] at g1
        obtain ⟨hp1, hp2⟩ := hob p (by simp)
        rw [hML] at hown hol ⊢
        rw [hML] at HQ
        clear hcells hob hpe
        have hdz : decide ((M.length : Int) + 1 > 0) = true := decide_eq_true (by omega)
        have HML := Lib.hid hML
        clear hML
        by_cases hpr : p.2 + 1 = r.1
        · rw [if_pos hpr] at HT
          have hpe : (p.2 + 1 == r.1) = true := by simpa using hpr
          have HT := Lib.hid HT
          clear hpr hown
          go_wp2
          go_quiet (fail)
          have d2 : (wr.drewN nq).cell? ⟨b, off + k * 2 + 1, none⟩ = some (.int .i64 r.2) := c2
          have d3 : (wr.drewN nq).cell? ⟨g, M.length * 2 + 1, none⟩ = some (.int .i64 p.2) := g1
          have d4 : (wr.drewN nq).frozen? ⟨g, M.length * 2 + 1, none⟩ = false := gf
          go_wp2
          refine ⟨⟨k + 1, by omega, by go_num, ?_, ?_⟩, by simp [intOf]; omega⟩
          · rw [HT.out, ← cellsR_last, List.length_append]
            exact HQ.out.1
          · exact (below_drewN HB.out nq).setCell (p := ⟨g, M.length * 2 + 1, none⟩) hgb _
        · rw [if_neg hpr] at HT
          have hpe : (p.2 + 1 == r.1) = false := by simpa using hpr
          have HT := Lib.hid HT
          clear hpr HQ
          go_wp2
          go_quiet (fail)
          have hown2 : (wr.drewN nq).ownsRow w.heap.size 60 2 (.slice (some ⟨g, 0, none⟩) (M.length + 1) oc) (M.length + 1) (cellsR (M ++ [p])) := hown
          have HB2 : Hid (Below w.heap.size w (wr.drewN nq)) := below_drewN HB.out _
          have hle2 : w.heap.size ≤ (wr.drewN nq).heap.size := hle
          have d1 : (wr.drewN nq).cell? ⟨b, off + k * 2, none⟩ = some (.int .i64 r.1) := c1
          have d2 : (wr.drewN nq).cell? ⟨b, off + k * 2 + 1, none⟩ = some (.int .i64 r.2) := c2
          clear c1 c2 hown g1 gf
          generalize wr.drewN nq = w2 at *
          go_wp2_with (at_builtin; refine wpList_append2 rfl (.tmp 42) (.tmp 47) 29 rfl w.heap.size 60 i0 (.agg #[.int .i64 0, .int .i64 0]) 16 Try.underlying29 hi hz0 hz1 hz2 rfl _ _ _ rfl hown2 _ _ rfl rfl rfl rfl (by omega) hle2 ?_; intro v1 w1 o1 bw n1)
          refine ⟨⟨k + 1, by omega, by go_num, ?_, HB2.out.trans bw⟩, by simp [intOf]; omega⟩
          rw [HT.out, List.length_append, cellsR_append, HML.out]; exact o1
    · obtain rfl : k = G.length := by omega
      rw [List.take_length] at hown hol
      obtain ⟨oa, oc, rfl, _⟩ := (SlAt.of_own hown).shape
      go_wp2
      go_ret
      exact ⟨_, _, rfl, RgAt.own hown, HB.out⟩
end Go.Proofs.Ytmmogifmogdegaa
