/-
  dom.each, dom.Shift, dom.Scale, dom.Has, walked.
-/
import Derived.Test.YtlihgipfimdlpaaRefE
namespace Go.Proofs.Ytlihgipfimdlpaa
open Go.RowKit

theorem clamp_c (n lo hi : Int) (w : World) : Calls Try.prog 41 #[.int .i64 n, .int .i64 lo, .int .i64 hi] w fun e w' => e = .returned (.int .i64 (clampI n lo hi)) ∧ w = w' := by
  go_enter Try.func41, Try.ntmps41
  go_wp2
  go_ret
  exact ⟨rfl, rfl⟩

/-- the hull of the two ends, turned -/
def turnL (f : Int → Int) (l : List Rg) : List Rg := l.map fun r => (min (f r.1) (f r.2), max (f r.1) (f r.2))
theorem turnL_take (f : Int → Int) (l : List Rg) (k : Nat) (h : k < l.length) : turnL f (l.take (k + 1)) = turnL f (l.take k) ++ [(min (f l[k].1) (f l[k].2), max (f l[k].1) (f l[k].2))] := by
  unfold turnL; rw [List.take_succ_eq_append_getElem h, List.map_append]; rfl
theorem turnL_length (f : Int → Int) (l : List Rg) : (turnL f l).length = l.length := by simp [turnL]

set_option maxRecDepth 100000 in
set_option maxHeartbeats 1600000 in
theorem each_c (va : Value) (a : List Rg) (g : Nat) (lb : Array Value) (f : Int → Int) (w : World) (ha : RgAt w va a) (hla : a.length ≤ 4096)
    (eg : ∀ args w, (callFunc g args).run Try.prog w = .ok (.enter g args) w)
    (hg : ∀ W n, Below w.heap.size w W → -200 ≤ n → n ≤ 200 → Calls Try.prog g (#[.int .i64 n] ++ lb) W fun e w' => e = .returned (.int .i64 (f n)) ∧ W = w') :
    Calls Try.prog 42 #[va, .func (.func g) #[] lb] w (RetR (norm (turnL f (norm a))) w) := by
  obtain ⟨i0, hi, hz0, hz1, hz2⟩ := info_parts Try.infoRg
  obtain ⟨ao, cap, rfl, _⟩ := ha.shape
  have CA : Hid (Calls Try.prog 27 #[.slice ao a.length cap] w (RetR (norm a) w)) := norm_c _ _ w ha hla
  have CN : Hid (∀ v l W, RgAt W v l → l.length ≤ 4096 → Calls Try.prog 27 #[v] W (RetR (norm l) W)) := fun v l W h hl => norm_c v l W h hl
  have HBD : Hid (∀ p ∈ norm a, -200 ≤ p.1 ∧ p.1 ≤ p.2 ∧ p.2 ≤ 200) := norm_bounds a
  have hln : (norm a).length ≤ 201 := norm_len a
  have HG := Lib.hid hg
  clear ha hg
  generalize hNA : norm a = na at CA hln HBD ⊢
  clear hNA
  go_enter Try.func42, Try.ntmps42
  go_wp2_with (first
    | (go_at_call 27; (with_reducible refine CA.out.mono ?_); rintro e W ⟨a1, c1, rfl, hr1, hb1⟩; have HR1 := Lib.hid hr1; have HW := Lib.hid hb1; clear hr1 hb1))
  go_loopw [5, 13] (fun o s wr => ∃ k : Nat, k ≤ na.length ∧ s = .int .i64 k ∧ wr.ownsRow W.heap.size 28 2 o (turnL f (na.take k)).length (cellsR (turnL f (na.take k))) ∧ Below W.heap.size W wr) (fun _ s _ => na.length - (intOf s).toNat)
  case atStart => exact ⟨0, by omega, rfl, World.ownsRow_nil _ _ _ _, Below.refl _ _⟩
  case round =>
    obtain ⟨k, hk, rfl, hown, hbel⟩ := hrel
    have hle : W.heap.size ≤ wr.heap.size := hbel.size
    have HB := Lib.hid hbel
    clear hbel
    have hol : (turnL f (na.take k)).length ≤ 201 := by rw [turnL_length, List.length_take]; omega
    by_cases hlt : k < na.length
    · obtain ⟨b, off, c', he, hcap, hbs, hc⟩ := RgAt.at HR1.out (by omega)
      simp only [Value.slice.injEq, true_and] at he
      obtain ⟨rfl, rfl⟩ := he
      obtain ⟨c1, c2⟩ := hc k hlt
      rw [← HB.out.cell (p := ⟨b, off + k * 2, none⟩) hbs] at c1
      rw [← HB.out.cell (p := ⟨b, off + k * 2 + 1, none⟩) hbs] at c2
      have hbd := HBD.out _ (List.getElem_mem hlt)
      have HT := Lib.hid (turnL_take f na k hlt)
      obtain ⟨r, hr⟩ : ∃ r, r = na[k] := ⟨_, rfl⟩
      rw [← hr] at c1 c2 HT hbd
      clear hc hr
      obtain ⟨hd1, hd2, hd3⟩ := hbd
      have hbe : b ≠ wr.heap.size := by omega
      generalize turnL f (na.take k) = O at *
      go_wp2
      have d1 : (wr.alloc (.cells #[.int .i64 r.1, .int .i64 r.2] 28)).cell? ⟨wr.heap.size, 0, none⟩ = some (.int .i64 r.1) := by simp
      have d2 : (wr.alloc (.cells #[.int .i64 r.1, .int .i64 r.2] 28)).cell? ⟨wr.heap.size, 1, none⟩ = some (.int .i64 r.2) := by simp
      have hown2 := hown.alloc (.cells #[.int .i64 r.1, .int .i64 r.2] 28)
      have HB2 := Lib.hid (HB.out.alloc hle (.cells #[.int .i64 r.1, .int .i64 r.2] 28))
      clear c1 c2 hown
      generalize wr.alloc (.cells #[.int .i64 r.1, .int .i64 r.2] 28) = w2 at d1 d2 hown2 HB2 ⊢
      have HO2 := Lib.hid hown2
      have HG1 : Hid (∀ n, Calls Try.prog g (#[.int .i64 r.1] ++ lb) (w2.drewN n) fun e w' => e = .returned (.int .i64 (f r.1)) ∧ w2.drewN n = w') := fun n => HG.out _ _ (below_drewN (HW.out.trans (HB2.out.mono HW.out.size)) n) (by omega) (by omega)
      have HG2 : Hid (∀ n, Calls Try.prog g (#[.int .i64 r.2] ++ lb) (w2.drewN n) fun e w' => e = .returned (.int .i64 (f r.2)) ∧ w2.drewN n = w') := fun n => HG.out _ _ (below_drewN (HW.out.trans (HB2.out.mono HW.out.size)) n) (by omega) (by omega)
      clear hown2
      go_quiet ((first | (go_at_fn g; with_reducible exact quiet_here (HG1.out _)) | (go_at_fn g; with_reducible exact quiet_here (HG2.out _))))
      go_wp2_with (at_builtin; refine wpList_append2 rfl (.tmp 25) (.tmp 33) 22 rfl W.heap.size 28 i0 (.agg #[.int .i64 0, .int .i64 0]) 16 Try.underlying22 hi hz0 hz1 hz2 rfl _ _ _ rfl (Try.ownsRow_drewN HO2.out _) _ _ rfl rfl rfl rfl (by omega) HB2.out.size ?_; intro v1 w1 o1 b1 n1)
      refine ⟨⟨k + 1, by omega, by go_num, ?_, (below_drewN HB2.out _).trans b1⟩, by simp [intOf]; omega⟩
      rw [HT.out, List.length_append, cellsR_append]
      exact o1
    · obtain rfl : k = na.length := by omega
      rw [List.take_length] at hown
      obtain ⟨oa, oc, rfl, _⟩ := (SlAt.of_own hown).shape
      have CF := Lib.hid (CN.out _ _ wr (RgAt.own hown) (by rw [turnL_length]; omega))
      clear hown
      generalize norm (turnL f na) = res at *
      generalize (turnL f na).length = m at *
      go_wp2_with (go_at_call 27; (with_reducible refine CF.out.mono ?_); rintro e W2 ⟨a2, c2, rfl, hr2, hb2⟩)
      go_ret
      exact ⟨_, _, rfl, hr2, HW.out.trans ((HB.out.trans (hb2.mono hle)).mono HW.out.size)⟩

theorem turn_shift (b : Int) (l : List Rg) (h : ∀ r ∈ l, r.1 ≤ r.2) : turnL (fun n => n + b) l = shL b l := by
  unfold turnL shL
  refine List.map_congr_left fun r hr => ?_
  have := h r hr
  exact Prod.ext (by dsimp only; omega) (by dsimp only; omega)
theorem turn_scale (b : Int) (l : List Rg) : turnL (fun n => n * b) l = scL b l := rfl

theorem shiftFn_c (n c : Int) (B : Nat) (W : World) (hc : W.cell? ⟨B, 0, none⟩ = some (.int .i64 c)) (hn : -200 ≤ n ∧ n ≤ 200) (hcc : -401 ≤ c ∧ c ≤ 401) :
    Calls Try.prog 43 #[.int .i64 n, .pointer (some ⟨B, 0, none⟩)] W fun e w' => e = .returned (.int .i64 (n + c)) ∧ W = w' := by
  obtain ⟨h1, h2⟩ := hn
  obtain ⟨h3, h4⟩ := hcc
  go_enter Try.func43, Try.ntmps43
  go_wp2
  go_ret
  exact ⟨rfl, rfl⟩
theorem scaleFn_c (n c : Int) (B : Nat) (W : World) (hc : W.cell? ⟨B, 0, none⟩ = some (.int .i64 c)) (hn : -200 ≤ n ∧ n ≤ 200) (hcc : -201 ≤ c ∧ c ≤ 201) :
    Calls Try.prog 45 #[.int .i64 n, .pointer (some ⟨B, 0, none⟩)] W fun e w' => e = .returned (.int .i64 (n * c)) ∧ W = w' := by
  obtain ⟨x1, x2⟩ := mul_small n c hn (by omega)
  have e1 : IntKind.i64.wrap (n * c) = n * c := by simp [IntKind.wrap, IntKind.bits, IntKind.signed]; omega
  go_enter Try.func45, Try.ntmps45
  go_wp2
  go_ret
  exact ⟨rfl, rfl⟩

set_option maxRecDepth 100000 in
theorem shift_c (va : Value) (a : List Rg) (by' : Int) (w : World) (ha : RgAt w va a) (hla : a.length ≤ 4096) :
    Calls Try.prog 13 #[va, .int .i64 by'] w (RetR (shiftL a by') w) := by
  obtain ⟨ao, cap, rfl, _⟩ := ha.shape
  have hcl : -401 ≤ clampI by' (-401) 401 ∧ clampI by' (-401) 401 ≤ 401 := by unfold clampI; omega
  have CC : Hid (∀ W, Calls Try.prog 41 #[.int .i64 by', .int .i64 (-401), .int .i64 401] W fun e w' => e = .returned (.int .i64 (clampI by' (-401) 401)) ∧ W = w') := fun W => clamp_c by' _ _ W
  have eg : ∀ args w, (callFunc 43 args).run Try.prog w = .ok (.enter 43 args) w := enters_of Try.func43 (by kernel_rfl) rfl
  have CE : Hid (∀ W, Below w.heap.size w W → W.cell? ⟨w.heap.size, 0, none⟩ = some (.int .i64 (clampI by' (-401) 401)) →
      Calls Try.prog 42 #[.slice ao a.length cap, .func (.func 43) #[] #[.pointer (some ⟨w.heap.size, 0, none⟩)]] W (RetR (shiftL a by') W)) := fun W hB hc => by
    have h := each_c _ a 43 #[.pointer (some ⟨w.heap.size, 0, none⟩)] (fun n => n + clampI by' (-401) 401) W (ha.below hB) hla eg (fun W' n hW h1 h2 => by
      have hlt := World.block_lt_of_cell? W _ hc
      exact shiftFn_c n _ w.heap.size W' ((hW.cell (p := ⟨w.heap.size, 0, none⟩) hlt).trans hc) ⟨h1, h2⟩ hcl)
    rw [turn_shift _ _ (fun r hr => (norm_bounds a r hr).2.1), shift_clamp a by' _ _ (by decide) (by decide)] at h
    exact h
  clear ha eg
  generalize shiftL a by' = res at *
  generalize clampI by' (-401) 401 = c at *
  clear hcl
  go_enter Try.func13, Try.ntmps13
  go_wp2_with (first
    | (go_at_call 41; (with_reducible refine (CC.out _).mono ?_); rintro e w' ⟨rfl, rfl⟩)
    | (go_at_call 42; refine (CE.out _ ((Below.refl _ _).alloc (Nat.le_refl _) _) (by simp)).mono ?_; rintro e W ⟨a1, c1, rfl, hr1, hb1⟩))
  go_ret
  exact ⟨_, _, rfl, hr1, ((Below.refl _ _).alloc (Nat.le_refl _) _).trans (hb1.mono (by simp))⟩
set_option maxRecDepth 100000 in
theorem scale_c (va : Value) (a : List Rg) (by' : Int) (w : World) (ha : RgAt w va a) (hla : a.length ≤ 4096) :
    Calls Try.prog 15 #[va, .int .i64 by'] w (RetR (scaleL a by') w) := by
  obtain ⟨ao, cap, rfl, _⟩ := ha.shape
  have hcl : -201 ≤ clampI by' (-201) 201 ∧ clampI by' (-201) 201 ≤ 201 := by unfold clampI; omega
  have CC : Hid (∀ W, Calls Try.prog 41 #[.int .i64 by', .int .i64 (-201), .int .i64 201] W fun e w' => e = .returned (.int .i64 (clampI by' (-201) 201)) ∧ W = w') := fun W => clamp_c by' _ _ W
  have eg : ∀ args w, (callFunc 45 args).run Try.prog w = .ok (.enter 45 args) w := enters_of Try.func45 (by kernel_rfl) rfl
  have CE : Hid (∀ W, Below w.heap.size w W → W.cell? ⟨w.heap.size, 0, none⟩ = some (.int .i64 (clampI by' (-201) 201)) →
      Calls Try.prog 42 #[.slice ao a.length cap, .func (.func 45) #[] #[.pointer (some ⟨w.heap.size, 0, none⟩)]] W (RetR (scaleL a by') W)) := fun W hB hc => by
    have h := each_c _ a 45 #[.pointer (some ⟨w.heap.size, 0, none⟩)] (fun n => n * clampI by' (-201) 201) W (ha.below hB) hla eg (fun W' n hW h1 h2 => by
      have hlt := World.block_lt_of_cell? W _ hc
      exact scaleFn_c n _ w.heap.size W' ((hW.cell (p := ⟨w.heap.size, 0, none⟩) hlt).trans hc) ⟨h1, h2⟩ hcl)
    rw [turn_scale, scale_clamp a by' _ _ (by decide) (by decide)] at h
    exact h
  clear ha eg
  generalize scaleL a by' = res at *
  generalize clampI by' (-201) 201 = c at *
  clear hcl
  go_enter Try.func15, Try.ntmps15
  go_wp2_with (first
    | (go_at_call 41; (with_reducible refine (CC.out _).mono ?_); rintro e w' ⟨rfl, rfl⟩)
    | (go_at_call 42; refine (CE.out _ ((Below.refl _ _).alloc (Nat.le_refl _) _) (by simp)).mono ?_; rintro e W ⟨a1, c1, rfl, hr1, hb1⟩))
  go_ret
  exact ⟨_, _, rfl, hr1, ((Below.refl _ _).alloc (Nat.le_refl _) _).trans (hb1.mono (by simp))⟩
end Go.Proofs.Ytlihgipfimdlpaa
