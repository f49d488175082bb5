/-
  The value in a place; whether a sum stands so: the program's and the reference's, walked.
  The reference's value and whether a sum stands so; a product, a told sum; walked.
  A told sum, walked.
  Whether variables are unlike (by a map of what was seen), walked.
  rel.Holds by its four kinds, walked.
-/
import Derived.Test.YtajooiainglpmaaGreatKonce6
import Derived.Test.YtajooiainglpmaaGreatKonce2
import Derived.Test.YtajooiainglpmaaGreatKdomb1
import Derived.Deep.QuietTactic
import Derived.BigQuiet
import Derived.Test.YtajooiainglpmaaGreatKlib1
namespace Go.Proofs.YtajooiainglpmaaGreat
open Go.RowKit

set_option maxRecDepth 100000 in
theorem at_any (vx : Value) (x : List Int) (n : Int) (w : World) (h : IsAt w vx x) (_hl : x.length ≤ 4096) :
    Calls Tryz.prog 127 #[vx, .int .i64 n] w fun e w' => e = .returned (.int .i64 (valP x n)) ∧ w = w' := by
  obtain ⟨a0, c0, rfl, _⟩ := IsAt.shape h
  unfold valP
  by_cases h1 : n < 0
  · rw [if_pos (.inl h1)]
    go_enter Tryz.func127, Tryz.ntmps127
    go_wp2
    go_ret
    exact ⟨rfl, rfl⟩
  by_cases h2 : (x.length : Int) ≤ n
  · rw [if_pos (.inr h2)]
    go_enter Tryz.func127, Tryz.ntmps127
    go_wp2
    go_ret
    exact ⟨rfl, rfl⟩
  · rw [if_neg (by omega)]
    obtain ⟨m, rfl⟩ : ∃ m : Nat, n = m := ⟨n.toNat, by omega⟩
    have hm : m < x.length := by omega
    obtain ⟨b, o, rfl, _, _, x0⟩ := h.get m hm
    have e0 : x.getD ((m : Int)).toNat 0 = x[m] := by simp [List.getD_eq_getElem?_getD, List.getElem?_eq_getElem hm]
    rw [e0]
    clear h e0
    generalize x[m] = z at *
    go_enter Tryz.func127, Tryz.ntmps127
    go_wp2
    go_ret
    exact ⟨rfl, rfl⟩
theorem valP_bnd {x : List Int} (h : ∀ v ∈ x, -200 ≤ v ∧ v ≤ 200) (n : Int) : -200 ≤ valP x n ∧ valP x n ≤ 200 := by
  unfold valP
  split
  · omega
  · rename_i hn
    have hl : n.toNat < x.length := by omega
    rw [List.getD_eq_getElem?_getD, List.getElem?_eq_getElem hl]
    exact h _ (List.getElem_mem hl)
theorem sumV_take (x : List Int) (ps : Ps) (k : Nat) (hk : k < ps.length) : sumV x (ps.take (k + 1)) = sumV x (ps.take k) + ps[k].1 * valP x ps[k].2 := by
  unfold sumV
  rw [List.take_succ_eq_append_getElem hk, List.map_append, List.sum_append]; simp
theorem sumV_bnd {x : List Int} (h : ∀ v ∈ x, -200 ≤ v ∧ v ≤ 200) : ∀ (ps : Ps), (∀ p ∈ ps, -100000 ≤ p.1 ∧ p.1 ≤ 100000) → -(20000000 * (ps.length : Int)) ≤ sumV x ps ∧ sumV x ps ≤ 20000000 * ps.length
  | [], _ => by simp [sumV]
  | p :: ps, hp => by
    have h1 := sumV_bnd h ps (fun q hq => hp q (List.mem_cons_of_mem _ hq))
    have h2 := mul_bnd (valP x p.2) p.1 100000 (valP_bnd h _) (hp p (by simp))
    unfold sumV at *
    rw [List.map_cons, List.sum_cons, List.length_cons]
    omega

set_option maxRecDepth 100000 in
set_option maxHeartbeats 1600000 in
theorem linHolds_c (va vb vx : Value) (rel C : Int) (coef vars x : List Int) (w : World) (h0 : IsAt w va coef) (h1 : IsAt w vb vars) (hx : IsAt w vx x) (hlen : coef.length = vars.length) (hl16 : coef.length ≤ 16) (hcb : ∀ c ∈ coef, -100000 ≤ c ∧ c ≤ 100000)
    (hr : rel = 1 ∨ rel = 2 ∨ rel = 3) (hC : -1099511627776 ≤ C ∧ C ≤ 1099511627776) (hxl : x.length ≤ 4096) (hxb : ∀ v ∈ x, -200 ≤ v ∧ v ≤ 200) :
    Calls Tryz.prog 124 #[.agg #[va, vb, .int .i64 rel, .int .i64 C], vx] w fun e w' => e = .returned (.bool (holdsS rel C (sumV x (coef.zip vars)))) ∧ Below w.heap.size w w' := by
  obtain ⟨a0, c0, rfl, _⟩ := IsAt.shape h0
  obtain ⟨a1, c1, rfl, _⟩ := IsAt.shape h1
  obtain ⟨a2, c2, rfl, _⟩ := IsAt.shape hx
  have hzl : (coef.zip vars).length = coef.length := by rw [List.length_zip]; omega
  rw [← hlen] at h1 ⊢
  obtain ⟨n, hn⟩ : ∃ n, n = coef.length := ⟨_, rfl⟩
  have HVB := Lib.hid (valP_bnd hxb)
  have HSB : Hid (∀ k, k ≤ 16 → -(320000000 : Int) ≤ sumV x ((coef.zip vars).take k) ∧ sumV x ((coef.zip vars).take k) ≤ 320000000) := fun k hk => by
    have := sumV_bnd hxb ((coef.zip vars).take k) (fun q hq => hcb _ (List.of_mem_zip (List.mem_of_mem_take hq)).1)
    have h2 : ((coef.zip vars).take k).length ≤ 16 := by rw [List.length_take]; omega
    omega
  have HST : Hid (∀ k, (hk : k < n) → ∃ cf v : Int, coef[k]? = some cf ∧ vars[k]? = some v ∧ (-100000 ≤ cf ∧ cf ≤ 100000) ∧ sumV x ((coef.zip vars).take (k + 1)) = sumV x ((coef.zip vars).take k) + cf * valP x v) := fun k hk => by
    have h1 : k < coef.length := by omega
    have h2 : k < vars.length := by omega
    have h3 : k < (coef.zip vars).length := by omega
    refine ⟨coef[k], vars[k], List.getElem?_eq_getElem h1, List.getElem?_eq_getElem h2, hcb _ (List.getElem_mem h1), ?_⟩
    rw [sumV_take x _ k h3, List.getElem_zip]
  have HZA : Hid (sumV x ((coef.zip vars).take n) = sumV x (coef.zip vars)) := by show _ = _; rw [hn, ← hzl, List.take_length]
  have HG0 : Hid (∀ k, k < n → ∀ cf, coef[k]? = some cf → ∃ b off, a0 = some ⟨b, off, none⟩ ∧ n ≤ c0 ∧ b < w.heap.size ∧ w.cell? ⟨b, off + k, none⟩ = some (.int .i64 cf)) := fun k hk cf hc => by
    obtain ⟨b, off, e1, e2, e3, e4⟩ := h0.get k (by omega)
    rw [List.getElem?_eq_getElem (by omega)] at hc
    injection hc with hc
    exact ⟨b, off, e1, by omega, e3, by rw [e4, hc]⟩
  have HG1 : Hid (∀ k, k < n → ∀ v, vars[k]? = some v → ∃ b off, a1 = some ⟨b, off, none⟩ ∧ n ≤ c1 ∧ b < w.heap.size ∧ w.cell? ⟨b, off + k, none⟩ = some (.int .i64 v)) := fun k hk v hc => by
    obtain ⟨b, off, e1, e2, e3, e4⟩ := h1.get k (by omega)
    rw [List.getElem?_eq_getElem (by omega)] at hc
    injection hc with hc
    exact ⟨b, off, e1, by omega, e3, by rw [e4, hc]⟩
  have CA : Hid (∀ n W, Below w.heap.size w W → Calls Tryz.prog 127 #[.slice a2 x.length c2, .int .i64 n] W fun e w' => e = .returned (.int .i64 (valP x n)) ∧ W = w') := fun n W h => at_any _ x n W (hx.below h) hxl
  have hn16 : n ≤ 16 := by omega
  rw [← hn] at *
  have HX := Lib.hid (BoxL.mk' w #[.slice a0 n c0, .slice a1 n c1, .int .i64 rel, .int .i64 C] 74)
  have HB : Hid (Below w.heap.size w (w.alloc (.cells #[.slice a0 n c0, .slice a1 n c1, .int .i64 rel, .int .i64 C] 74))) := (Below.refl _ _).alloc (Nat.le_refl _) _
  have S0 : Hid (sumV x ((coef.zip vars).take 0) = 0) := rfl
  clear h0 h1 hx hcb hlen hzl hxb hl16 hn
  obtain ⟨l0, _⟩ := HX.out.get 0 rfl
  obtain ⟨l1, _⟩ := HX.out.get 1 rfl
  obtain ⟨l3, _⟩ := HX.out.get 3 rfl
  go_enter Tryz.func124, Tryz.ntmps124
  go_wp2
  go_loopw [5, 20] (fun t s wr => ∃ k : Nat, k ≤ n ∧ s = .int .i64 k ∧ t = .int .i64 (-C + sumV x ((coef.zip vars).take k)) ∧ Hid (BoxL wr w.heap.size [.slice a0 n c0, .slice a1 n c1, .int .i64 rel, .int .i64 C]) ∧ Hid (Below w.heap.size w wr)) (fun _ s _ => n - (intOf s).toNat)
  case atStart => exact ⟨0, by omega, rfl, by rw [S0.out]; simp, HX, HB⟩
  case round =>
    clear l0 l1 l3 HX HB
    obtain ⟨k, hk, rfl, rfl, HX, HB⟩ := hrel
    obtain ⟨b1, b2⟩ := HSB.out k (by omega)
    by_cases hlt : k < n
    · obtain ⟨cf, v, e1, e2, hcf, hst⟩ := HST.out k hlt
      obtain ⟨g0, o0, rfl, q0, r0, y0⟩ := HG0.out k hlt cf e1
      obtain ⟨g1, o1, rfl, q1, r1, y1⟩ := HG1.out k hlt v e2
      rw [← HB.out.cell (p := ⟨g0, o0 + k, none⟩) r0] at y0
      rw [← HB.out.cell (p := ⟨g1, o1 + k, none⟩) r1] at y1
      obtain ⟨l0, _⟩ := HX.out.get 0 rfl
      obtain ⟨l1, _⟩ := HX.out.get 1 rfl
      obtain ⟨b3, b4⟩ := HSB.out (k + 1) (by omega)
      have hvb := HVB.out v
      have CA1 : Hid (∀ m, Calls Tryz.prog 127 #[.slice a2 x.length c2, .int .i64 v] (wr.drewN m) fun e w' => e = .returned (.int .i64 (valP x v)) ∧ wr.drewN m = w') := fun m => CA.out v _ (below_drewN HB.out m)
      have HS1 := Lib.hid hst
      rw [hst] at b3 b4
      clear hst e1 e2
      generalize sumV x ((coef.zip vars).take k) = S at *
      generalize valP x v = z at *
      have hm := mul_bnd z cf 100000 hvb hcf
      have j1 : (k : Int) < n := by omega
      have j4 : (k : Int) ≤ 16 := by omega
      have w1 := wrap_small (x := cf * z) (by omega)
      have w2 := wrap_small (x := -C + S + cf * z) (by omega)
      go_wp2
      go_quiet ((go_at_call 127; exact quiet_here (CA1.out _)))
      clear w1 w2
      go_wp2
      exact ⟨⟨k + 1, by omega, by go_num, by rw [HS1.out, Int.add_assoc], Lib.hid (HX.out.below (below_drewN (Below.refl _ _) _) (HX.out.lt (by simp))), Lib.hid (below_drewN HB.out _)⟩, by simp [intOf]; omega⟩
    · obtain rfl : k = n := by omega
      rw [HZA.out] at b1 b2 ⊢
      obtain ⟨l2, _⟩ := HX.out.get 2 rfl
      obtain ⟨S, hS⟩ : ∃ S, S = sumV x (coef.zip vars) := ⟨_, rfl⟩
      rw [← hS] at b1 b2 ⊢
      have HSM := Lib.hid hS
      clear hS
      rcases hr with rfl | rfl | rfl
      · go_wp2
        go_ret
        exact ⟨ret_bool (by rw [← HSM.out, Bool.eq_iff_iff]; simp [holdsS]; omega), HB.out⟩
      · go_wp2
        go_ret
        exact ⟨ret_bool (by rw [← HSM.out, Bool.eq_iff_iff]; simp [holdsS]; omega), HB.out⟩
      · go_wp2
        go_ret
        exact ⟨ret_bool (by rw [← HSM.out, Bool.eq_iff_iff]; simp [holdsS]; omega), HB.out⟩
end Go.Proofs.YtajooiainglpmaaGreat
namespace Go.Proofs.YtajooiainglpmaaGreat
open Go.RowKit

set_option maxRecDepth 100000 in
theorem value_any (vx : Value) (x : List Int) (n : Int) (w : World) (h : IsAt w vx x) (_hl : x.length ≤ 4096) :
    Calls Tryz.prog 77 #[vx, .int .i64 n] w fun e w' => e = .returned (.int .i64 (valP x n)) ∧ w = w' := by
  obtain ⟨a0, c0, rfl, _⟩ := IsAt.shape h
  unfold valP
  by_cases h1 : n < 0
  · rw [if_pos (.inl h1)]
    go_enter Tryz.func77, Tryz.ntmps77
    go_wp2
    go_ret
    exact ⟨rfl, rfl⟩
  by_cases h2 : (x.length : Int) ≤ n
  · rw [if_pos (.inr h2)]
    go_enter Tryz.func77, Tryz.ntmps77
    go_wp2
    go_ret
    exact ⟨rfl, rfl⟩
  · rw [if_neg (by omega)]
    obtain ⟨m, rfl⟩ : ∃ m : Nat, n = m := ⟨n.toNat, by omega⟩
    have hm : m < x.length := by omega
    obtain ⟨b, o, rfl, _, _, x0⟩ := h.get m hm
    have e0 : x.getD ((m : Int)).toNat 0 = x[m] := by simp [List.getD_eq_getElem?_getD, List.getElem?_eq_getElem hm]
    rw [e0]
    clear h e0
    generalize x[m] = z at *
    go_enter Tryz.func77, Tryz.ntmps77
    go_wp2
    go_ret
    exact ⟨rfl, rfl⟩

set_option maxRecDepth 100000 in
set_option maxHeartbeats 1600000 in
theorem stands_c (va vb vx : Value) (rel C : Int) (coef vars x : List Int) (w : World) (h0 : IsAt w va coef) (h1 : IsAt w vb vars) (hx : IsAt w vx x) (hlen : coef.length = vars.length) (hl16 : coef.length ≤ 16) (hcb : ∀ c ∈ coef, -100000 ≤ c ∧ c ≤ 100000)
    (hr : rel = 1 ∨ rel = 2 ∨ rel = 3) (_hC : -1099511627776 ≤ C ∧ C ≤ 1099511627776) (hxl : x.length ≤ 4096) (hxb : ∀ v ∈ x, -200 ≤ v ∧ v ≤ 200) :
    Calls Tryz.prog 76 #[.agg #[va, vb, .int .i64 rel, .int .i64 C], vx] w fun e w' => e = .returned (.bool (holdsS rel C (sumV x (coef.zip vars)))) ∧ Below w.heap.size w w' := by
  obtain ⟨a0, c0, rfl, _⟩ := IsAt.shape h0
  obtain ⟨a1, c1, rfl, _⟩ := IsAt.shape h1
  obtain ⟨a2, c2, rfl, _⟩ := IsAt.shape hx
  have hzl : (coef.zip vars).length = coef.length := by rw [List.length_zip]; omega
  rw [← hlen] at h1 ⊢
  obtain ⟨n, hn⟩ : ∃ n, n = coef.length := ⟨_, rfl⟩
  have HVB := Lib.hid (valP_bnd hxb)
  have HSB : Hid (∀ k, k ≤ 16 → -(320000000 : Int) ≤ sumV x ((coef.zip vars).take k) ∧ sumV x ((coef.zip vars).take k) ≤ 320000000) := fun k hk => by
    have := sumV_bnd hxb ((coef.zip vars).take k) (fun q hq => hcb _ (List.of_mem_zip (List.mem_of_mem_take hq)).1)
    have h2 : ((coef.zip vars).take k).length ≤ 16 := by rw [List.length_take]; omega
    omega
  have HST : Hid (∀ k, (hk : k < n) → ∃ cf v : Int, coef[k]? = some cf ∧ vars[k]? = some v ∧ (-100000 ≤ cf ∧ cf ≤ 100000) ∧ sumV x ((coef.zip vars).take (k + 1)) = sumV x ((coef.zip vars).take k) + cf * valP x v) := fun k hk => by
    have h1 : k < coef.length := by omega
    have h2 : k < vars.length := by omega
    have h3 : k < (coef.zip vars).length := by omega
    refine ⟨coef[k], vars[k], List.getElem?_eq_getElem h1, List.getElem?_eq_getElem h2, hcb _ (List.getElem_mem h1), ?_⟩
    rw [sumV_take x _ k h3, List.getElem_zip]
  have HZA : Hid (sumV x ((coef.zip vars).take n) = sumV x (coef.zip vars)) := by show _ = _; rw [hn, ← hzl, List.take_length]
  have HG0 : Hid (∀ k, k < n → ∀ cf, coef[k]? = some cf → ∃ b off, a0 = some ⟨b, off, none⟩ ∧ n ≤ c0 ∧ b < w.heap.size ∧ w.cell? ⟨b, off + k, none⟩ = some (.int .i64 cf)) := fun k hk cf hc => by
    obtain ⟨b, off, e1, e2, e3, e4⟩ := h0.get k (by omega)
    rw [List.getElem?_eq_getElem (by omega)] at hc
    injection hc with hc
    exact ⟨b, off, e1, by omega, e3, by rw [e4, hc]⟩
  have HG1 : Hid (∀ k, k < n → ∀ v, vars[k]? = some v → ∃ b off, a1 = some ⟨b, off, none⟩ ∧ n ≤ c1 ∧ b < w.heap.size ∧ w.cell? ⟨b, off + k, none⟩ = some (.int .i64 v)) := fun k hk v hc => by
    obtain ⟨b, off, e1, e2, e3, e4⟩ := h1.get k (by omega)
    rw [List.getElem?_eq_getElem (by omega)] at hc
    injection hc with hc
    exact ⟨b, off, e1, by omega, e3, by rw [e4, hc]⟩
  have CA : Hid (∀ n W, Below w.heap.size w W → Calls Tryz.prog 77 #[.slice a2 x.length c2, .int .i64 n] W fun e w' => e = .returned (.int .i64 (valP x n)) ∧ W = w') := fun n W h => value_any _ x n W (hx.below h) hxl
  have hn16 : n ≤ 16 := by omega
  rw [← hn] at *
  have HX := Lib.hid (BoxL.mk' w #[.slice a0 n c0, .slice a1 n c1, .int .i64 rel, .int .i64 C] 28)
  have HB : Hid (Below w.heap.size w (w.alloc (.cells #[.slice a0 n c0, .slice a1 n c1, .int .i64 rel, .int .i64 C] 28))) := (Below.refl _ _).alloc (Nat.le_refl _) _
  have S0 : Hid (sumV x ((coef.zip vars).take 0) = 0) := rfl
  clear h0 h1 hx hcb hlen hzl hxb hl16 hn
  obtain ⟨l0, _⟩ := HX.out.get 0 rfl
  obtain ⟨l1, _⟩ := HX.out.get 1 rfl
  go_enter Tryz.func76, Tryz.ntmps76
  go_wp2
  go_loopw [5, 6] (fun t s wr => ∃ k : Nat, k ≤ n ∧ s = .int .i64 k ∧ t = .int .i64 (sumV x ((coef.zip vars).take k)) ∧ Hid (BoxL wr w.heap.size [.slice a0 n c0, .slice a1 n c1, .int .i64 rel, .int .i64 C]) ∧ Hid (Below w.heap.size w wr)) (fun _ s _ => n - (intOf s).toNat)
  case atStart => exact ⟨0, by omega, rfl, by rw [S0.out], HX, HB⟩
  case round =>
    clear l0 l1 HX HB
    obtain ⟨k, hk, rfl, rfl, HX, HB⟩ := hrel
    obtain ⟨b1, b2⟩ := HSB.out k (by omega)
    by_cases hlt : k < n
    · obtain ⟨cf, v, e1, e2, hcf, hst⟩ := HST.out k hlt
      obtain ⟨g0, o0, rfl, q0, r0, y0⟩ := HG0.out k hlt cf e1
      obtain ⟨g1, o1, rfl, q1, r1, y1⟩ := HG1.out k hlt v e2
      rw [← HB.out.cell (p := ⟨g0, o0 + k, none⟩) r0] at y0
      rw [← HB.out.cell (p := ⟨g1, o1 + k, none⟩) r1] at y1
      obtain ⟨l0, _⟩ := HX.out.get 0 rfl
      obtain ⟨l1, _⟩ := HX.out.get 1 rfl
      obtain ⟨b3, b4⟩ := HSB.out (k + 1) (by omega)
      have hvb := HVB.out v
      have CA1 : Hid (∀ m, Calls Tryz.prog 77 #[.slice a2 x.length c2, .int .i64 v] (wr.drewN m) fun e w' => e = .returned (.int .i64 (valP x v)) ∧ wr.drewN m = w') := fun m => CA.out v _ (below_drewN HB.out m)
      have HS1 := Lib.hid hst
      rw [hst] at b3 b4
      clear hst e1 e2
      generalize sumV x ((coef.zip vars).take k) = S at *
      generalize valP x v = z at *
      have hm := mul_bnd z cf 100000 hvb hcf
      have j1 : (k : Int) < n := by omega
      have j4 : (k : Int) ≤ 16 := by omega
      have w1 := wrap_small (x := cf * z) (by omega)
      have w2 := wrap_small (x := S + cf * z) (by omega)
      go_wp2
      go_quiet ((go_at_call 77; exact quiet_here (CA1.out _)))
      clear w1 w2
      go_wp2
      exact ⟨⟨k + 1, by omega, by go_num, by rw [HS1.out], Lib.hid (HX.out.below (below_drewN (Below.refl _ _) _) (HX.out.lt (by simp))), Lib.hid (below_drewN HB.out _)⟩, by simp [intOf]; omega⟩
    · obtain rfl : k = n := by omega
      rw [HZA.out] at b1 b2 ⊢
      obtain ⟨l0, _⟩ := HX.out.get 0 rfl
      obtain ⟨l1, _⟩ := HX.out.get 1 rfl
      obtain ⟨l2, _⟩ := HX.out.get 2 rfl
      obtain ⟨l3, _⟩ := HX.out.get 3 rfl
      obtain ⟨S, hS⟩ : ∃ S, S = sumV x (coef.zip vars) := ⟨_, rfl⟩
      rw [← hS] at b1 b2 ⊢
      have HSM := Lib.hid hS
      clear hS
      rcases hr with rfl | rfl | rfl
      · go_wp2
        go_ret
        exact ⟨ret_bool (by rw [← HSM.out, Bool.eq_iff_iff]; simp [holdsS]; try omega), HB.out⟩
      · go_wp2
        go_ret
        exact ⟨ret_bool (by rw [← HSM.out, Bool.eq_iff_iff]; simp [holdsS]; try omega), HB.out⟩
      · go_wp2
        go_ret
        exact ⟨ret_bool (by rw [← HSM.out, Bool.eq_iff_iff]; simp [holdsS]; try omega), HB.out⟩

set_option maxRecDepth 100000 in
set_option maxHeartbeats 800000 in
theorem prodHolds_c (vx : Value) (a b c : Int) (x : List Int) (w : World) (hx : IsAt w vx x) (hxl : x.length ≤ 4096) (hxb : ∀ v ∈ x, -200 ≤ v ∧ v ≤ 200) :
    Calls Tryz.prog 161 #[.agg #[.int .i64 a, .int .i64 b, .int .i64 c], vx] w fun e w' => e = .returned (.bool (decide (valP x a * valP x b = valP x c))) ∧ Below w.heap.size w w' := by
  obtain ⟨a2, c2, rfl, _⟩ := IsAt.shape hx
  have HX := Lib.hid (BoxL.mk' w #[.int .i64 a, .int .i64 b, .int .i64 c] 95)
  have HB : Hid (Below w.heap.size w (w.alloc (.cells #[.int .i64 a, .int .i64 b, .int .i64 c] 95))) := (Below.refl _ _).alloc (Nat.le_refl _) _
  have CA : Hid (∀ n m, Calls Tryz.prog 127 #[.slice a2 x.length c2, .int .i64 n] ((w.alloc (.cells #[.int .i64 a, .int .i64 b, .int .i64 c] 95)).drewN m) fun e w' => e = .returned (.int .i64 (valP x n)) ∧ (w.alloc (.cells #[.int .i64 a, .int .i64 b, .int .i64 c] 95)).drewN m = w') := fun n m => at_any _ x n _ (hx.below (below_drewN HB.out m)) hxl
  have CA1 := Lib.hid (CA.out a)
  have CA2 := Lib.hid (CA.out b)
  have CA3 := Lib.hid (CA.out c)
  have ha := valP_bnd hxb a
  have hb := valP_bnd hxb b
  have hm := mul_bnd2 _ _ ha hb
  clear hx hxb CA
  obtain ⟨l0, _⟩ := HX.out.get 0 rfl
  obtain ⟨l1, _⟩ := HX.out.get 1 rfl
  obtain ⟨l2, _⟩ := HX.out.get 2 rfl
  generalize valP x a = p at *
  generalize valP x b = q at *
  generalize valP x c = r at *
  have w1 := wrap_small (x := p * q) (by omega)
  go_enter Tryz.func161, Tryz.ntmps161
  go_wp2
  go_quiet ((first | (go_at_call 127; with_reducible exact quiet_here (CA1.out _)) | (go_at_call 127; with_reducible exact quiet_here (CA2.out _)) | (go_at_call 127; with_reducible exact quiet_here (CA3.out _))))
  go_wp2
  go_ret
  exact ⟨ret_bool rfl, below_drewN HB.out _⟩
end Go.Proofs.YtajooiainglpmaaGreat
namespace Go.Proofs.YtajooiainglpmaaGreat
open Go.RowKit

set_option maxRecDepth 100000 in
set_option maxHeartbeats 1600000 in
theorem reifHolds_c (va vb vx : Value) (xv rel C : Int) (coef vars x : List Int) (w : World) (h0 : IsAt w va coef) (h1 : IsAt w vb vars) (hx : IsAt w vx x) (hlen : coef.length = vars.length) (hl16 : coef.length ≤ 16) (hcb : ∀ c ∈ coef, -100000 ≤ c ∧ c ≤ 100000)
    (hr : rel = 1 ∨ rel = 2 ∨ rel = 3) (hC : -1099511627776 ≤ C ∧ C ≤ 1099511627776) (hxl : x.length ≤ 4096) (hxb : ∀ v ∈ x, -200 ≤ v ∧ v ≤ 200) :
    Calls Tryz.prog 144 #[.agg #[.int .i64 xv, va, vb, .int .i64 rel, .int .i64 C], vx] w fun e w' => e = .returned (.bool ((decide (valP x xv = 1) && holdsS rel C (sumV x (coef.zip vars))) || (decide (valP x xv = 0) && !holdsS rel C (sumV x (coef.zip vars))))) ∧ Below w.heap.size w w' := by
  obtain ⟨a0, c0, rfl, _⟩ := IsAt.shape h0
  obtain ⟨a1, c1, rfl, _⟩ := IsAt.shape h1
  obtain ⟨a2, c2, rfl, _⟩ := IsAt.shape hx
  have HX := Lib.hid (BoxL.mk' w #[.int .i64 xv, .slice a0 coef.length c0, .slice a1 vars.length c1, .int .i64 rel, .int .i64 C] 77)
  have HB : Hid (Below w.heap.size w (w.alloc (.cells #[.int .i64 xv, .slice a0 coef.length c0, .slice a1 vars.length c1, .int .i64 rel, .int .i64 C] 77))) := (Below.refl _ _).alloc (Nat.le_refl _) _
  have CA := Lib.hid (at_any _ x xv _ (hx.below HB.out) hxl)
  have CL := Lib.hid (linHolds_c _ _ _ rel C coef vars x _ (h0.below HB.out) (h1.below HB.out) (hx.below HB.out) hlen hl16 hcb hr hC hxl hxb)
  clear h0 h1 hx hlen hcb hr hC hxb
  obtain ⟨l0, _⟩ := HX.out.get 0 rfl
  obtain ⟨l1, _⟩ := HX.out.get 1 rfl
  obtain ⟨l2, _⟩ := HX.out.get 2 rfl
  obtain ⟨l3, _⟩ := HX.out.get 3 rfl
  obtain ⟨l4, _⟩ := HX.out.get 4 rfl
  obtain ⟨H, hH⟩ : ∃ H, H = holdsS rel C (sumV x (coef.zip vars)) := ⟨_, rfl⟩
  obtain ⟨n, hn⟩ : ∃ n, n = valP x xv := ⟨_, rfl⟩
  rw [← hH] at CL ⊢
  rw [← hn] at CA ⊢
  have HH := Lib.hid hH
  have HN := Lib.hid hn
  clear hH hn
  by_cases e1 : n = 1
  · subst e1
    go_enter Tryz.func144, Tryz.ntmps144
    go_wp2_with (first
      | (go_at_call 127; (with_reducible refine CA.out.mono ?_); rintro e w' ⟨rfl, rfl⟩)
      | (go_at_call 124; (with_reducible refine CL.out.mono ?_); rintro e w' ⟨rfl, bb⟩; have B2 := Lib.hid (HB.out.trans (bb.mono HB.out.size)); clear bb))
    go_ret
    exact ⟨ret_bool (by cases H <;> rfl), B2.out⟩
  by_cases e0 : n = 0
  · subst e0
    go_enter Tryz.func144, Tryz.ntmps144
    go_wp2_with (first
      | (go_at_call 127; (with_reducible refine CA.out.mono ?_); rintro e w' ⟨rfl, rfl⟩)
      | (go_at_call 124; (with_reducible refine CL.out.mono ?_); rintro e w' ⟨rfl, bb⟩; have B2 := Lib.hid (HB.out.trans (bb.mono HB.out.size)); clear bb))
    go_ret
    exact ⟨ret_bool (by cases H <;> rfl), B2.out⟩
  · have g1 : (n == 1) = false := beqf e1
    have g0 : (n == 0) = false := beqf e0
    go_enter Tryz.func144, Tryz.ntmps144
    go_wp2_with (first
      | (go_at_call 127; (with_reducible refine CA.out.mono ?_); rintro e w' ⟨rfl, rfl⟩))
    go_ret
    exact ⟨ret_bool (by simp [e1, e0]), HB.out⟩
end Go.Proofs.YtajooiainglpmaaGreat
namespace Go.Proofs.YtajooiainglpmaaGreat
open Go.RowKit

def seenS (x : List Int) (l : List Int) (k : Nat) (i : Int) : Bool := (l.take k).any fun v => decide (valP x v = i)
theorem seenS_step (x l : List Int) (k : Nat) (hk : k < l.length) (i : Int) : seenS x l (k + 1) i = if i = valP x l[k] then true else seenS x l k i := by
  unfold seenS
  rw [List.take_succ_eq_append_getElem hk, List.any_append]
  by_cases e : i = valP x l[k]
  · simp [e]
  · rw [if_neg e]
    have e2 : ¬ valP x l[k] = i := fun h => e h.symm
    simp [e2]
def unlikeTo (x : List Int) (l : List Int) (k : Nat) : Bool := (List.range k).all fun i => (List.range i).all fun j => decide (valP x (l.getD j 0) ≠ valP x (l.getD i 0))
theorem unlikeTo_all (x l : List Int) : unlikeTo x l l.length = unlike x l := rfl
theorem unlikeTo_step (x l : List Int) (k : Nat) (hk : k < l.length) : unlikeTo x l (k + 1) = (unlikeTo x l k && !seenS x l k (valP x l[k])) := by
  unfold unlikeTo
  rw [List.range_succ, List.all_append]
  congr 1
  have e : l.getD k 0 = l[k] := by simp [List.getD_eq_getElem?_getD, List.getElem?_eq_getElem hk]
  simp only [List.all_cons, List.all_nil, Bool.and_true, e]
  unfold seenS
  rw [Bool.eq_iff_iff, List.all_eq_true, Bool.not_eq_true', List.any_eq_false]
  constructor
  · intro h v hv
    obtain ⟨j, hj, rfl⟩ := List.getElem_of_mem hv
    rw [List.getElem_take]
    rw [List.length_take] at hj
    have := h j (List.mem_range.2 (by omega))
    rw [List.getD_eq_getElem?_getD, List.getElem?_eq_getElem (by omega)] at this
    simpa using this
  · intro h j hj
    have hj' := List.mem_range.1 hj
    have := h l[j] (by rw [List.mem_take_iff_getElem]; exact ⟨j, by omega, rfl⟩)
    rw [List.getD_eq_getElem?_getD, List.getElem?_eq_getElem (by omega)]
    simpa using this
theorem unlikeTo_false (x l : List Int) (k : Nat) (hk : k ≤ l.length) (h : unlikeTo x l k = false) : unlike x l = false := by
  cases hu : unlike x l with
  | false => rfl
  | true =>
    exfalso
    have : unlikeTo x l k = true := by
      unfold unlikeTo
      rw [List.all_eq_true]
      intro i hi
      unfold unlike at hu
      rw [List.all_eq_true] at hu
      exact hu i (List.mem_range.2 (by have := List.mem_range.1 hi; omega))
    rw [this] at h; cases h

set_option maxRecDepth 100000 in
set_option maxHeartbeats 1600000 in
theorem diffHolds_c (va vx : Value) (l x : List Int) (w : World) (h0 : IsAt w va l) (hx : IsAt w vx x) (hll : l.length ≤ 4096) (hxl : x.length ≤ 4096) (hxb : ∀ v ∈ x, -200 ≤ v ∧ v ≤ 200) :
    Calls Tryz.prog 153 #[.agg #[va], vx] w fun e w' => e = .returned (.bool (unlike x l)) ∧ Below w.heap.size w w' := by
  obtain ⟨a0, c0, rfl, _⟩ := IsAt.shape h0
  obtain ⟨a2, c2, rfl, _⟩ := IsAt.shape hx
  have HB : Hid (Below w.heap.size w ((w.alloc (.cells #[.slice a0 l.length c0] 79)).alloc (.map #[] 0))) := ((Below.refl _ _).alloc (Nat.le_refl _) _).alloc (by simp) _
  have CA : Hid (∀ n W, Below w.heap.size w W → Calls Tryz.prog 127 #[.slice a2 x.length c2, .int .i64 n] W fun e w' => e = .returned (.int .i64 (valP x n)) ∧ W = w') := fun n W h => at_any _ x n W (hx.below h) hxl
  have HVB := Lib.hid (valP_bnd hxb)
  have H0 := Lib.hid h0
  have HM : Hid (SetAt Tryz.prog 3 4 ((w.alloc (.cells #[.slice a0 l.length c0] 79)).alloc (.map #[] 0)) (w.heap.size + 1) 0 (fun _ => false)) := by
    have h := SetAt.made (P := Tryz.prog) (K := 3) (E := 4) (w.alloc (.cells #[.slice a0 l.length c0] 79))
    rw [show (w.alloc (.cells #[.slice a0 l.length c0] 79)).heap.size = w.heap.size + 1 by simp] at h
    exact h
  have hmm := @run_makeMap Tryz.prog
  have HST := Lib.hid (seenS_step x l)
  have HUS := Lib.hid (unlikeTo_step x l)
  have HUF := Lib.hid (unlikeTo_false x l)
  have HUA := Lib.hid (unlikeTo_all x l)
  clear h0 hx hxb
  go_enter Tryz.func153, Tryz.ntmps153
  go_wp2
  go_loopw [12] (fun s wr => ∃ k : Nat, k ≤ l.length ∧ s = .int .i64 k ∧ Hid (unlikeTo x l k = true) ∧ Hid (SetAt Tryz.prog 3 4 wr (w.heap.size + 1) k (seenS x l k)) ∧ Hid (Below w.heap.size w wr)) (fun s _ => l.length - (intOf s).toNat)
  case atStart => exact ⟨0, by omega, rfl, rfl, HM, HB⟩
  case round =>
    clear HM HB hmm
    obtain ⟨k, hk, rfl, HU, HM, HB⟩ := hrel
    by_cases hlt : k < l.length
    · obtain ⟨b0, o0, rfl, q0, r0, y0⟩ := H0.out.get k hlt
      rw [← HB.out.cell (p := ⟨b0, o0 + k, none⟩) r0] at y0
      have j1 : (k : Int) < l.length := by omega
      have S1 := Lib.hid (HST.out k hlt)
      have U1 := Lib.hid (HUS.out k hlt)
      have U2 := Lib.hid (HUF.out (k + 1) hlt)
      have hvb := HVB.out l[k]
      have CA1 := Lib.hid (CA.out l[k] wr HB.out)
      rw [HU.out, Bool.true_and] at U1
      generalize l[k] = v at *
      generalize valP x v = z at *
      cases hse : seenS x l k z with
      | true =>
        have UF : Hid (unlike x l = false) := U2.out (by rw [U1.out, hse]; rfl)
        go_wp2_with (first
          | (go_at_call 127; (with_reducible refine CA1.out.mono ?_); rintro e w' ⟨rfl, rfl⟩)
          | (at_lookup; refine wpList_lookup_set _ rfl _ _ 82 rfl 3 4 Tryz.underlying3 Tryz.underlying82 Tryz.underlying4 (Tryz.zeroValue4 _) (w.heap.size + 1) k _ rfl HM.out z rfl (by omega) ?_; rw [hse]))
        go_ret
        exact ⟨ret_bool UF.out.symm, HB.out⟩
      | false =>
        have UT : Hid (unlikeTo x l (k + 1) = true) := by show _ = _; rw [U1.out, hse]; rfl
        go_wp2_with (first
          | (go_at_call 127; (with_reducible refine CA1.out.mono ?_); rintro e w' ⟨rfl, rfl⟩)
          | (at_lookup; refine wpList_lookup_set _ rfl _ _ 82 rfl 3 4 Tryz.underlying3 Tryz.underlying82 Tryz.underlying4 (Tryz.zeroValue4 _) (w.heap.size + 1) k _ rfl HM.out z rfl (by omega) ?_; rw [hse])
          | (at_mapUpdate; refine wpList_mapUpdate_set _ rfl _ _ _ 82 rfl 3 4 Tryz.underlying3 Tryz.underlying82 Tryz.underlying4 (w.heap.size + 1) k _ rfl HM.out (by unfold maxLen; omega) z rfl (by omega) true rfl ?_; intro w5 hs5 hg5; have M5 := Lib.hid (hs5.congr (fun i => (S1.out i).symm)); have B5 := Lib.hid (HB.out.grown hg5 HB.out.size (fun j e => by cases e; omega)); clear hs5 hg5))
        exact ⟨⟨k + 1, by omega, by go_num, UT, M5, B5⟩, by simp [intOf]; omega⟩
    · obtain rfl : k = l.length := by omega
      rw [HUA.out] at HU
      go_wp2
      go_ret
      exact ⟨ret_bool HU.out.symm, HB.out⟩
end Go.Proofs.YtajooiainglpmaaGreat
namespace Go.Proofs.YtajooiainglpmaaGreat
open Go.RowKit

set_option maxRecDepth 100000 in
set_option maxHeartbeats 1600000 in
theorem relHolds1_c (va vb vv vx : Value) (rel c x y z : Int) (coef vars vs xs : List Int) (ds : Ds) (w : World) (h0 : IsAt w va coef) (h1 : IsAt w vb vars) (h2 : IsAt w vv vs) (hx : IsAt w vx xs) (hf : (PL.mk 1 rel c x y z coef vars vs).Fine ds) (hxl : xs.length ≤ 4096) (hxb : ∀ v ∈ xs, -200 ≤ v ∧ v ≤ 200) :
    Calls Tryz.prog 11 #[propV 1 va vb rel c x y z vv, vx] w fun e w' => e = .returned (.bool (holdsP (PL.mk 1 rel c x y z coef vars vs) xs)) ∧ Below w.heap.size w w' := by
  obtain ⟨a0, c0, rfl, _⟩ := IsAt.shape h0
  obtain ⟨a1, c1, rfl, _⟩ := IsAt.shape h1
  obtain ⟨a2, c2, rfl, _⟩ := IsAt.shape h2
  obtain ⟨a3, c3, rfl, _⟩ := IsAt.shape hx
  have HZ : Hid (Below w.heap.size w (w.alloc (.cells #[.int .i64 1, .slice a0 coef.length c0, .slice a1 vars.length c1, .int .i64 rel, .int .i64 c, .int .i64 x, .int .i64 y, .int .i64 z, .slice a2 vs.length c2] 30))) := (Below.refl _ _).alloc (Nat.le_refl _) _
  have CO : Hid (Calls Tryz.prog 30 #[.agg #[.int .i64 1, .slice a0 coef.length c0, .slice a1 vars.length c1, .int .i64 rel, .int .i64 c, .int .i64 x, .int .i64 y, .int .i64 z, .slice a2 vs.length c2]] (w.alloc (.cells #[.int .i64 1, .slice a0 coef.length c0, .slice a1 vars.length c1, .int .i64 rel, .int .i64 c, .int .i64 x, .int .i64 y, .int .i64 z, .slice a2 vs.length c2] 30)) fun e w' => e = .returned (.iface 74 (.agg #[.slice a0 coef.length c0, .slice a1 vars.length c1, .int .i64 rel, .int .i64 c])) ∧ Below (w.alloc (.cells #[.int .i64 1, .slice a0 coef.length c0, .slice a1 vars.length c1, .int .i64 rel, .int .i64 c, .int .i64 x, .int .i64 y, .int .i64 z, .slice a2 vs.length c2] 30)).heap.size (w.alloc (.cells #[.int .i64 1, .slice a0 coef.length c0, .slice a1 vars.length c1, .int .i64 rel, .int .i64 c, .int .i64 x, .int .i64 y, .int .i64 z, .slice a2 vs.length c2] 30)) w') := of_c 1 a0 a1 a2 coef.length vars.length vs.length c0 c1 c2 rel c x y z _
  have CH : Hid (∀ W, Below w.heap.size w W → Calls Tryz.prog 124 #[.agg #[.slice a0 coef.length c0, .slice a1 vars.length c1, .int .i64 rel, .int .i64 c], .slice a3 xs.length c3] W fun e w' => e = .returned (.bool (holdsS rel c (sumV xs (coef.zip vars)))) ∧ Below W.heap.size W w') := fun W h => linHolds_c _ _ _ rel c coef vars xs W (h0.below h) (h1.below h) (hx.below h) (hf.lin (.inl rfl)).1.len (hf.lin (.inl rfl)).1.le16 (hf.lin (.inl rfl)).1.coefs (hf.lin (.inl rfl)).2.1 (hf.lin (.inl rfl)).2.2.1 hxl hxb
  have hval : holdsP (PL.mk 1 rel c x y z coef vars vs) xs = holdsS rel c (sumV xs (coef.zip vars)) := by unfold holdsP; simp
  rw [hval]
  clear h0 h1 h2 hx hf hxb hval
  obtain ⟨V, hV⟩ : ∃ V, V = holdsS rel c (sumV xs (coef.zip vars)) := ⟨_, rfl⟩
  rw [← hV] at CH ⊢
  clear hV
  unfold propV
  go_enter Tryz.func11, Tryz.ntmps11
  go_wp2_with (first
    | (go_at_call 30; (with_reducible refine CO.out.mono ?_); rintro e W1 ⟨rfl, bb⟩; have B1 := Lib.hid (HZ.out.trans (bb.mono HZ.out.size)); clear bb)
    | (go_at_call 124; (with_reducible refine (CH.out _ B1.out).mono ?_); rintro e W2 ⟨rfl, bb⟩; have B2 := Lib.hid (B1.out.trans (bb.mono B1.out.size)); clear bb))
  go_ret
  exact ⟨rfl, B2.out⟩

set_option maxRecDepth 100000 in
set_option maxHeartbeats 1600000 in
theorem relHolds2_c (va vb vv vx : Value) (rel c x y z : Int) (coef vars vs xs : List Int) (ds : Ds) (w : World) (h0 : IsAt w va coef) (h1 : IsAt w vb vars) (h2 : IsAt w vv vs) (hx : IsAt w vx xs) (_hf : (PL.mk 2 rel c x y z coef vars vs).Fine ds) (hxl : xs.length ≤ 4096) (hxb : ∀ v ∈ xs, -200 ≤ v ∧ v ≤ 200) :
    Calls Tryz.prog 11 #[propV 2 va vb rel c x y z vv, vx] w fun e w' => e = .returned (.bool (holdsP (PL.mk 2 rel c x y z coef vars vs) xs)) ∧ Below w.heap.size w w' := by
  obtain ⟨a0, c0, rfl, _⟩ := IsAt.shape h0
  obtain ⟨a1, c1, rfl, _⟩ := IsAt.shape h1
  obtain ⟨a2, c2, rfl, _⟩ := IsAt.shape h2
  obtain ⟨a3, c3, rfl, _⟩ := IsAt.shape hx
  have HZ : Hid (Below w.heap.size w (w.alloc (.cells #[.int .i64 2, .slice a0 coef.length c0, .slice a1 vars.length c1, .int .i64 rel, .int .i64 c, .int .i64 x, .int .i64 y, .int .i64 z, .slice a2 vs.length c2] 30))) := (Below.refl _ _).alloc (Nat.le_refl _) _
  have CO : Hid (Calls Tryz.prog 30 #[.agg #[.int .i64 2, .slice a0 coef.length c0, .slice a1 vars.length c1, .int .i64 rel, .int .i64 c, .int .i64 x, .int .i64 y, .int .i64 z, .slice a2 vs.length c2]] (w.alloc (.cells #[.int .i64 2, .slice a0 coef.length c0, .slice a1 vars.length c1, .int .i64 rel, .int .i64 c, .int .i64 x, .int .i64 y, .int .i64 z, .slice a2 vs.length c2] 30)) fun e w' => e = .returned (.iface 95 (.agg #[.int .i64 x, .int .i64 y, .int .i64 z])) ∧ Below (w.alloc (.cells #[.int .i64 2, .slice a0 coef.length c0, .slice a1 vars.length c1, .int .i64 rel, .int .i64 c, .int .i64 x, .int .i64 y, .int .i64 z, .slice a2 vs.length c2] 30)).heap.size (w.alloc (.cells #[.int .i64 2, .slice a0 coef.length c0, .slice a1 vars.length c1, .int .i64 rel, .int .i64 c, .int .i64 x, .int .i64 y, .int .i64 z, .slice a2 vs.length c2] 30)) w') := of_c 2 a0 a1 a2 coef.length vars.length vs.length c0 c1 c2 rel c x y z _
  have CH : Hid (∀ W, Below w.heap.size w W → Calls Tryz.prog 161 #[.agg #[.int .i64 x, .int .i64 y, .int .i64 z], .slice a3 xs.length c3] W fun e w' => e = .returned (.bool (decide (valP xs x * valP xs y = valP xs z))) ∧ Below W.heap.size W w') := fun W h => prodHolds_c _ x y z xs W (hx.below h) hxl hxb
  have hval : holdsP (PL.mk 2 rel c x y z coef vars vs) xs = decide (valP xs x * valP xs y = valP xs z) := by unfold holdsP; simp
  rw [hval]
  clear h0 h1 h2 hx _hf hxb hval
  obtain ⟨V, hV⟩ : ∃ V, V = decide (valP xs x * valP xs y = valP xs z) := ⟨_, rfl⟩
  rw [← hV] at CH ⊢
  clear hV
  unfold propV
  go_enter Tryz.func11, Tryz.ntmps11
  go_wp2_with (first
    | (go_at_call 30; (with_reducible refine CO.out.mono ?_); rintro e W1 ⟨rfl, bb⟩; have B1 := Lib.hid (HZ.out.trans (bb.mono HZ.out.size)); clear bb)
    | (go_at_call 161; (with_reducible refine (CH.out _ B1.out).mono ?_); rintro e W2 ⟨rfl, bb⟩; have B2 := Lib.hid (B1.out.trans (bb.mono B1.out.size)); clear bb))
  go_ret
  exact ⟨rfl, B2.out⟩

set_option maxRecDepth 100000 in
set_option maxHeartbeats 1600000 in
theorem relHolds3_c (va vb vv vx : Value) (rel c x y z : Int) (coef vars vs xs : List Int) (ds : Ds) (w : World) (h0 : IsAt w va coef) (h1 : IsAt w vb vars) (h2 : IsAt w vv vs) (hx : IsAt w vx xs) (hf : (PL.mk 3 rel c x y z coef vars vs).Fine ds) (hxl : xs.length ≤ 4096) (hxb : ∀ v ∈ xs, -200 ≤ v ∧ v ≤ 200) :
    Calls Tryz.prog 11 #[propV 3 va vb rel c x y z vv, vx] w fun e w' => e = .returned (.bool (holdsP (PL.mk 3 rel c x y z coef vars vs) xs)) ∧ Below w.heap.size w w' := by
  obtain ⟨a0, c0, rfl, _⟩ := IsAt.shape h0
  obtain ⟨a1, c1, rfl, _⟩ := IsAt.shape h1
  obtain ⟨a2, c2, rfl, _⟩ := IsAt.shape h2
  obtain ⟨a3, c3, rfl, _⟩ := IsAt.shape hx
  have HZ : Hid (Below w.heap.size w (w.alloc (.cells #[.int .i64 3, .slice a0 coef.length c0, .slice a1 vars.length c1, .int .i64 rel, .int .i64 c, .int .i64 x, .int .i64 y, .int .i64 z, .slice a2 vs.length c2] 30))) := (Below.refl _ _).alloc (Nat.le_refl _) _
  have CO : Hid (Calls Tryz.prog 30 #[.agg #[.int .i64 3, .slice a0 coef.length c0, .slice a1 vars.length c1, .int .i64 rel, .int .i64 c, .int .i64 x, .int .i64 y, .int .i64 z, .slice a2 vs.length c2]] (w.alloc (.cells #[.int .i64 3, .slice a0 coef.length c0, .slice a1 vars.length c1, .int .i64 rel, .int .i64 c, .int .i64 x, .int .i64 y, .int .i64 z, .slice a2 vs.length c2] 30)) fun e w' => e = .returned (.iface 79 (.agg #[.slice a2 vs.length c2])) ∧ Below (w.alloc (.cells #[.int .i64 3, .slice a0 coef.length c0, .slice a1 vars.length c1, .int .i64 rel, .int .i64 c, .int .i64 x, .int .i64 y, .int .i64 z, .slice a2 vs.length c2] 30)).heap.size (w.alloc (.cells #[.int .i64 3, .slice a0 coef.length c0, .slice a1 vars.length c1, .int .i64 rel, .int .i64 c, .int .i64 x, .int .i64 y, .int .i64 z, .slice a2 vs.length c2] 30)) w') := of_c 3 a0 a1 a2 coef.length vars.length vs.length c0 c1 c2 rel c x y z _
  have CH : Hid (∀ W, Below w.heap.size w W → Calls Tryz.prog 153 #[.agg #[.slice a2 vs.length c2], .slice a3 xs.length c3] W fun e w' => e = .returned (.bool (unlike xs vs)) ∧ Below W.heap.size W w') := fun W h => diffHolds_c _ _ vs xs W (h2.below h) (hx.below h) (by have := hf.vsl rfl; dsimp only at this; omega) hxl hxb
  have hval : holdsP (PL.mk 3 rel c x y z coef vars vs) xs = unlike xs vs := by unfold holdsP; simp
  rw [hval]
  clear h0 h1 h2 hx hf hxb hval
  obtain ⟨V, hV⟩ : ∃ V, V = unlike xs vs := ⟨_, rfl⟩
  rw [← hV] at CH ⊢
  clear hV
  unfold propV
  go_enter Tryz.func11, Tryz.ntmps11
  go_wp2_with (first
    | (go_at_call 30; (with_reducible refine CO.out.mono ?_); rintro e W1 ⟨rfl, bb⟩; have B1 := Lib.hid (HZ.out.trans (bb.mono HZ.out.size)); clear bb)
    | (go_at_call 153; (with_reducible refine (CH.out _ B1.out).mono ?_); rintro e W2 ⟨rfl, bb⟩; have B2 := Lib.hid (B1.out.trans (bb.mono B1.out.size)); clear bb))
  go_ret
  exact ⟨rfl, B2.out⟩

set_option maxRecDepth 100000 in
set_option maxHeartbeats 1600000 in
theorem relHolds4_c (va vb vv vx : Value) (rel c x y z : Int) (coef vars vs xs : List Int) (ds : Ds) (w : World) (h0 : IsAt w va coef) (h1 : IsAt w vb vars) (h2 : IsAt w vv vs) (hx : IsAt w vx xs) (hf : (PL.mk 4 rel c x y z coef vars vs).Fine ds) (hxl : xs.length ≤ 4096) (hxb : ∀ v ∈ xs, -200 ≤ v ∧ v ≤ 200) :
    Calls Tryz.prog 11 #[propV 4 va vb rel c x y z vv, vx] w fun e w' => e = .returned (.bool (holdsP (PL.mk 4 rel c x y z coef vars vs) xs)) ∧ Below w.heap.size w w' := by
  obtain ⟨a0, c0, rfl, _⟩ := IsAt.shape h0
  obtain ⟨a1, c1, rfl, _⟩ := IsAt.shape h1
  obtain ⟨a2, c2, rfl, _⟩ := IsAt.shape h2
  obtain ⟨a3, c3, rfl, _⟩ := IsAt.shape hx
  have HZ : Hid (Below w.heap.size w (w.alloc (.cells #[.int .i64 4, .slice a0 coef.length c0, .slice a1 vars.length c1, .int .i64 rel, .int .i64 c, .int .i64 x, .int .i64 y, .int .i64 z, .slice a2 vs.length c2] 30))) := (Below.refl _ _).alloc (Nat.le_refl _) _
  have CO : Hid (Calls Tryz.prog 30 #[.agg #[.int .i64 4, .slice a0 coef.length c0, .slice a1 vars.length c1, .int .i64 rel, .int .i64 c, .int .i64 x, .int .i64 y, .int .i64 z, .slice a2 vs.length c2]] (w.alloc (.cells #[.int .i64 4, .slice a0 coef.length c0, .slice a1 vars.length c1, .int .i64 rel, .int .i64 c, .int .i64 x, .int .i64 y, .int .i64 z, .slice a2 vs.length c2] 30)) fun e w' => e = .returned (.iface 77 (.agg #[.int .i64 x, .slice a0 coef.length c0, .slice a1 vars.length c1, .int .i64 rel, .int .i64 c])) ∧ Below (w.alloc (.cells #[.int .i64 4, .slice a0 coef.length c0, .slice a1 vars.length c1, .int .i64 rel, .int .i64 c, .int .i64 x, .int .i64 y, .int .i64 z, .slice a2 vs.length c2] 30)).heap.size (w.alloc (.cells #[.int .i64 4, .slice a0 coef.length c0, .slice a1 vars.length c1, .int .i64 rel, .int .i64 c, .int .i64 x, .int .i64 y, .int .i64 z, .slice a2 vs.length c2] 30)) w') := of_c 4 a0 a1 a2 coef.length vars.length vs.length c0 c1 c2 rel c x y z _
  have CH : Hid (∀ W, Below w.heap.size w W → Calls Tryz.prog 144 #[.agg #[.int .i64 x, .slice a0 coef.length c0, .slice a1 vars.length c1, .int .i64 rel, .int .i64 c], .slice a3 xs.length c3] W fun e w' => e = .returned (.bool (((decide (valP xs x = 1) && holdsS rel c (sumV xs (coef.zip vars))) || (decide (valP xs x = 0) && !holdsS rel c (sumV xs (coef.zip vars)))))) ∧ Below W.heap.size W w') := fun W h => reifHolds_c _ _ _ x rel c coef vars xs W (h0.below h) (h1.below h) (hx.below h) (hf.lin (.inr rfl)).1.len (hf.lin (.inr rfl)).1.le16 (hf.lin (.inr rfl)).1.coefs (hf.lin (.inr rfl)).2.1 (hf.lin (.inr rfl)).2.2.1 hxl hxb
  have hval : holdsP (PL.mk 4 rel c x y z coef vars vs) xs = ((decide (valP xs x = 1) && holdsS rel c (sumV xs (coef.zip vars))) || (decide (valP xs x = 0) && !holdsS rel c (sumV xs (coef.zip vars)))) := by unfold holdsP; simp
  rw [hval]
  clear h0 h1 h2 hx hf hxb hval
  obtain ⟨V, hV⟩ : ∃ V, V = ((decide (valP xs x = 1) && holdsS rel c (sumV xs (coef.zip vars))) || (decide (valP xs x = 0) && !holdsS rel c (sumV xs (coef.zip vars)))) := ⟨_, rfl⟩
  rw [← hV] at CH ⊢
  clear hV
  unfold propV
  go_enter Tryz.func11, Tryz.ntmps11
  go_wp2_with (first
    | (go_at_call 30; (with_reducible refine CO.out.mono ?_); rintro e W1 ⟨rfl, bb⟩; have B1 := Lib.hid (HZ.out.trans (bb.mono HZ.out.size)); clear bb)
    | (go_at_call 144; (with_reducible refine (CH.out _ B1.out).mono ?_); rintro e W2 ⟨rfl, bb⟩; have B2 := Lib.hid (B1.out.trans (bb.mono B1.out.size)); clear bb))
  go_ret
  exact ⟨rfl, B2.out⟩

theorem PL.Fine.kind4 {p : PL} {ds : Ds} (h : p.Fine ds) : p.kind = 1 ∨ p.kind = 2 ∨ p.kind = 3 ∨ p.kind = 4 := h.kind

theorem relHolds_c (kind : Int) (va vb vv vx : Value) (rel c x y z : Int) (coef vars vs xs : List Int) (ds : Ds) (w : World) (h0 : IsAt w va coef) (h1 : IsAt w vb vars) (h2 : IsAt w vv vs) (hx : IsAt w vx xs) (hf : (PL.mk kind rel c x y z coef vars vs).Fine ds) (hxl : xs.length ≤ 4096) (hxb : ∀ v ∈ xs, -200 ≤ v ∧ v ≤ 200) :
    Calls Tryz.prog 11 #[propV kind va vb rel c x y z vv, vx] w fun e w' => e = .returned (.bool (holdsP (PL.mk kind rel c x y z coef vars vs) xs)) ∧ Below w.heap.size w w' := by
  rcases hf.kind with h | h | h | h
  · dsimp only at h; subst h; exact relHolds1_c va vb vv vx rel c x y z coef vars vs xs ds w h0 h1 h2 hx hf hxl hxb
  · dsimp only at h; subst h; exact relHolds2_c va vb vv vx rel c x y z coef vars vs xs ds w h0 h1 h2 hx hf hxl hxb
  · dsimp only at h; subst h; exact relHolds3_c va vb vv vx rel c x y z coef vars vs xs ds w h0 h1 h2 hx hf hxl hxb
  · dsimp only at h; subst h; exact relHolds4_c va vb vv vx rel c x y z coef vars vs xs ds w h0 h1 h2 hx hf hxl hxb
end Go.Proofs.YtajooiainglpmaaGreat
