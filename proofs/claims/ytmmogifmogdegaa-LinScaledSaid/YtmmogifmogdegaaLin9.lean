/-
  The law's own 'holds', walked.
-/
import Derived.Test.YtmmogifmogdegaaLinQ
import Derived.Test.YtmmogifmogdegaaBox
namespace Go.Proofs.Ytmmogifmogdegaa
open Go.RowKit

theorem sumX_bnd {coef vars : List Int} {ds : Ds} (hg : GoodL coef vars ds) (x : List Int) (hx : ∀ z ∈ x, -200 ≤ z ∧ z ≤ 200) : ∀ k, -320000000 ≤ sumX x ((coef.zip vars).take k) ∧ sumX x ((coef.zip vars).take k) ≤ 320000000 := fun k => by
  have hl : ((coef.zip vars).take k).length ≤ 16 := by
    rw [List.length_take, hg.zip_len]; have := hg.le16; omega
  have hc : ∀ p ∈ (coef.zip vars).take k, -100000 ≤ p.1 ∧ p.1 ≤ 100000 := fun p hp => hg.coefs _ (List.of_mem_zip (List.mem_of_mem_take hp : (p.1, p.2) ∈ coef.zip vars)).1
  have hxx : ∀ n, -200 ≤ x.getD n 0 ∧ x.getD n 0 ≤ 200 := fun n => by
    rw [List.getD_eq_getElem?_getD]
    cases h : x[n]? with
    | none => simp
    | some z => exact hx z (List.mem_of_getElem? h)
  have h1 := sum_take_bnd (fun p => p.1 * x.getD p.2.toNat 0) 20000000 _ (fun p hp => mul_bnd _ _ 100000 (hxx _) (hc p hp))
  unfold sumX
  constructor <;> omega

set_option maxRecDepth 100000 in
set_option maxHeartbeats 1600000 in
theorem holds_c (va vb vx : Value) (rel C : Int) (coef vars x : List Int) (ds : Ds) (w : World) (h0 : IsAt w va coef) (h1 : IsAt w vb vars) (h2 : IsAt w vx x) (hg : GoodL coef vars ds) (hxl : x.length = ds.length) (hx : ∀ z ∈ x, -200 ≤ z ∧ z ≤ 200) (hr : rel = 1 ∨ rel = 2 ∨ rel = 3) :
    Calls Try.prog 12 #[.agg #[va, vb, .int .i64 rel, .int .i64 C], vx] w fun e w' => e = .returned (.bool (holdsL rel C x (coef.zip vars))) ∧ Below w.heap.size w w' := by
  obtain ⟨a0, c0, rfl, _⟩ := IsAt.shape h0
  obtain ⟨a1, c1, rfl, _⟩ := IsAt.shape h1
  obtain ⟨a2, c2, rfl, _⟩ := IsAt.shape h2
  have HB := Lib.hid (sumX_bnd hg x hx)
  have HC : Hid (∀ k, (hk : k < (coef.zip vars).length) → ∃ (b0 o0 b1 o1 b2 o2 n : Nat) (cf xv : Int), (a0 = some ⟨b0, o0, none⟩ ∧ a1 = some ⟨b1, o1, none⟩ ∧ a2 = some ⟨b2, o2, none⟩) ∧ (b0 < w.heap.size ∧ b1 < w.heap.size ∧ b2 < w.heap.size) ∧ n < x.length ∧
      w.cell? ⟨b0, o0 + k, none⟩ = some (.int .i64 cf) ∧ w.cell? ⟨b1, o1 + k, none⟩ = some (.int .i64 (n : Int)) ∧ w.cell? ⟨b2, o2 + n, none⟩ = some (.int .i64 xv) ∧ -100000 ≤ cf ∧ cf ≤ 100000 ∧ -200 ≤ xv ∧ xv ≤ 200 ∧
      sumX x ((coef.zip vars).take (k + 1)) = sumX x ((coef.zip vars).take k) + cf * xv) := fun k hk => by
    have hkc : k < coef.length := by rw [← hg.zip_len]; exact hk
    have hkv : k < vars.length := by rw [← hg.len]; exact hkc
    obtain ⟨b0, o0, rfl, q0, l0, x0⟩ := h0.get k hkc
    obtain ⟨b1, o1, rfl, q1, l1, x1⟩ := h1.get k hkv
    obtain ⟨hv1, hv2⟩ := hg.vars _ (List.getElem_mem hkv)
    have hn : vars[k].toNat < x.length := by omega
    obtain ⟨b2, o2, rfl, q2, l2, x2⟩ := h2.get vars[k].toNat hn
    have hc := hg.coefs _ (List.getElem_mem hkc)
    have hxv := hx _ (List.getElem_mem hn)
    refine ⟨b0, o0, b1, o1, b2, o2, vars[k].toNat, coef[k], x[vars[k].toNat], ⟨rfl, rfl, rfl⟩, ⟨l0, l1, l2⟩, hn, x0, by rw [x1]; congr 2; omega, x2, hc.1, hc.2, hxv.1, hxv.2, ?_⟩
    rw [List.take_succ_eq_append_getElem hk, List.getElem_zip]
    simp only [sumX, List.map_append, List.sum_append, List.map_cons, List.map_nil, List.sum_cons, List.sum_nil, Int.add_zero]
    rw [List.getD_eq_getElem?_getD, List.getElem?_eq_getElem hn]; rfl
  have hn := Lib.hid hg.len
  have hn2 := Lib.hid hg.zip_len
  have hn16 := hg.le16
  have hres : holdsL rel C x (coef.zip vars) = holdsS rel C (sumX x (coef.zip vars)) := rfl
  rw [hres]
  clear h0 h1 h2 hg hx hres
  generalize hps : coef.zip vars = ps at *
  clear hps
  go_enter Try.func12, Try.ntmps12
  go_wp2
  have HZ : Hid (Below w.heap.size w (w.alloc (.cells #[.slice a0 coef.length c0, .slice a1 vars.length c1, .int .i64 rel, .int .i64 C] 24)) ∧ (w.alloc (.cells #[.slice a0 coef.length c0, .slice a1 vars.length c1, .int .i64 rel, .int .i64 C] 24)).cell? ⟨w.heap.size, 0, none⟩ = some (.slice a0 coef.length c0) ∧ (w.alloc (.cells #[.slice a0 coef.length c0, .slice a1 vars.length c1, .int .i64 rel, .int .i64 C] 24)).cell? ⟨w.heap.size, 1, none⟩ = some (.slice a1 vars.length c1)
      ∧ (w.alloc (.cells #[.slice a0 coef.length c0, .slice a1 vars.length c1, .int .i64 rel, .int .i64 C] 24)).cell? ⟨w.heap.size, 2, none⟩ = some (.int .i64 rel) ∧ (w.alloc (.cells #[.slice a0 coef.length c0, .slice a1 vars.length c1, .int .i64 rel, .int .i64 C] 24)).cell? ⟨w.heap.size, 3, none⟩ = some (.int .i64 C)) :=
    ⟨(Below.refl _ _).alloc (Nat.le_refl _) _, by simp, by simp, by simp, by simp⟩
  generalize (w.alloc (.cells #[.slice a0 coef.length c0, .slice a1 vars.length c1, .int .i64 rel, .int .i64 C] 24)) = W at HZ ⊢
  obtain ⟨y0, y1, y2, y3⟩ := HZ.out.2
  have HB0 := Lib.hid HZ.out.1
  clear HZ
  go_loopw [5, 6] (fun a s wr => ∃ k : Nat, k ≤ ps.length ∧ s = .int .i64 k ∧ a = .int .i64 (sumX x (ps.take k)) ∧ ∃ q, wr = W.drewN q) (fun _ s _ => ps.length - (intOf s).toNat)
  case atStart => exact ⟨0, by omega, rfl, rfl, 0, rfl⟩
  case round =>
    obtain ⟨k, hk, rfl, rfl, q, rfl⟩ := hrel
    by_cases hlt : k < ps.length
    · obtain ⟨b0, o0, b1, o1, b2, o2, n, cf, xv, ⟨rfl, rfl, rfl⟩, ⟨q0, q1, q2⟩, hnn, x0, x1, x2, hc1, hc2, hx1, hx2, hsum⟩ := HC.out k hlt
      have j1 : (k : Int) < coef.length := by have := hn2.out; omega
      have j2 : (k : Int) < vars.length := by have := hn.out; have := hn2.out; omega
      have j3 : (n : Int) < x.length := by omega
      have j4 : (k : Int) ≤ 16 := by have := hn2.out; omega
      rw [← HB0.out.cell (p := ⟨b0, o0 + k, none⟩) q0] at x0
      rw [← HB0.out.cell (p := ⟨b1, o1 + k, none⟩) q1] at x1
      rw [← HB0.out.cell (p := ⟨b2, o2 + n, none⟩) q2] at x2
      have hb := HB.out k
      have HS := Lib.hid hsum
      obtain ⟨m1, m2⟩ := mul_bnd xv cf 100000 ⟨hx1, hx2⟩ ⟨hc1, hc2⟩
      clear hsum
      generalize sumX x (ps.take k) = s at *
      generalize hm : cf * xv = m at *
      have w1 := wrap_small (x := m) (by omega)
      have w2 := wrap_small (x := s + m) (by omega)
      rw [← hm] at w1
      go_wp2
      go_quiet (fail)
      go_wp2
      exact ⟨⟨k + 1, by omega, by go_num, by rw [HS.out], _, rfl⟩, by simp [intOf]; omega⟩
    · obtain rfl : k = ps.length := by omega
      have hlv : ¬ ps.length < vars.length := by have := hn.out; have := hn2.out; omega
      rw [List.take_length]
      generalize hs : sumX x ps = s at *
      have HSS := Lib.hid hs
      clear hs
      rcases hr with rfl | rfl | rfl
      all_goals
        go_wp2
        go_ret
        exact ⟨ret_bool (by rw [HSS.out]; unfold holdsS; by_cases h : s = C <;> simp [h]), below_drewN HB0.out _⟩
end Go.Proofs.Ytmmogifmogdegaa
