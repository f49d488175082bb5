/-
  dom.Ends, dom.At, walked.
  coneyref14.normal, .Norm, .Meet, .Join, .Minus, .Compl, walked.
  dom.Has, walked.
  coneyref14.cut, .Shift, .Scale, .Ends, .Size, .At, walked.
  A LIST OF RANGES THAT COMES IN.
-/
import Derived.Test.YtajooiainglpmaaGreatKdom3
import Derived.Shelf.SlicesQ.IndexFunc
import Derived.Lib.SliceRun
import Derived.Test.YtajooiainglpmaaGreatKdom1
import Derived.Test.YtajooiainglpmaaGreatKdom2
import Derived.Test.YtajooiainglpmaaGreatKlib1
import Derived.Lib.SmallJoins
namespace Go.Proofs.YtajooiainglpmaaGreat
open Go.RowKit

def endV (l : List Rg) : Value := .tuple #[.int .i64 (endsL l).1, .int .i64 (endsL l).2.1, .bool (endsL l).2.2]
def atV (o : Option Int) : Value := match o with
  | some n => .tuple #[.int .i64 n, .bool true]
  | none => .tuple #[.int .i64 0, .bool false]

set_option maxRecDepth 100000 in
set_option maxHeartbeats 800000 in
theorem ends_c (va : Value) (a : List Rg) (w : World) (ha : RgAt w va a) (hla : a.length ≤ 4096) :
    Calls Tryz.prog 136 #[va] w fun e w' => e = .returned (endV (norm a)) ∧ Below w.heap.size w w' := by
  obtain ⟨ao, cap, rfl, _⟩ := ha.shape
  have CA : Hid (Calls Tryz.prog 31 #[.slice ao a.length cap] w (RetR (norm a) w)) := norm_c _ _ w ha hla
  have hln : (norm a).length ≤ 201 := norm_len a
  clear ha
  generalize hNA : norm a = na at CA hln ⊢
  clear hNA
  rcases List.eq_nil_or_concat na with rfl | ⟨M, p, rfl⟩
  · rw [show ([] : List Rg).length = 0 from rfl] at *
    go_enter Tryz.func136, Tryz.ntmps136
    go_wp2_with (first
      | (go_at_call 31; (with_reducible refine CA.out.mono ?_); rintro e W ⟨a1, c1, rfl, hr1, hb1⟩; rw [show ([] : List Rg).length = 0 from rfl]; have HW := Lib.hid hb1; clear hr1 hb1))
    go_ret3
    exact ⟨rfl, HW.out⟩
  · rw [List.concat_eq_append] at *
    go_enter Tryz.func136, Tryz.ntmps136
    have hML : (M ++ [p]).length = M.length + 1 := by simp
    have HEV : Hid (endV (M ++ [p]) = .tuple #[.int .i64 ((M ++ [p])[0]'(by simp)).1, .int .i64 p.2, .bool true]) := by
      show _ = _
      cases M with
      | nil => rfl
      | cons r M =>
        have hl : (r :: (M ++ [p])).getLast (by simp) = p := by
          have h1 : (r :: (M ++ [p])).getLast? = some p := List.getLast?_concat (l := r :: M) (a := p)
          rw [List.getLast?_eq_some_getLast (by simp)] at h1
          exact Option.some.inj h1
        show Value.tuple #[_, .int .i64 ((r :: (M ++ [p])).getLast _).2, _] = _
        rw [hl]
        rfl
    have hz : ((M.length : Int) + 1 == 0) = false := beq_eq_false_iff_ne.2 (by omega)
    go_wp2_with (first
      | (go_at_call 31; (with_reducible refine CA.out.mono ?_); rintro e W ⟨a1, c1, rfl, hr1, hb1⟩; have HR1 := Lib.hid hr1; have HW := Lib.hid hb1; clear hr1 hb1; rw [hML]))
    obtain ⟨b, off, c', he, hcap, hbs, hc⟩ := RgAt.at HR1.out (by simp)
    simp only [Value.slice.injEq, true_and] at he
    obtain ⟨rfl, _, rfl⟩ := he
    have c1 := (hc 0 (by simp)).1
    have c2 := (hc M.length (by simp)).2
    simp only [Nat.zero_mul, Nat.add_zero, List.getElem_append_right, Nat.le_refl, Nat.sub_self, List.getElem_cons_zero] at c1 c2
    clear hc
    obtain ⟨x, hx⟩ : ∃ x, x = ((M ++ [p])[0]'(by simp)).1 := ⟨_, rfl⟩
    rw [← hx] at c1 HEV
    clear hx
    go_wp2
    go_quiet (fail)
    go_wp2
    go_ret3
    exact ⟨by rw [HEV.out]; rfl, below_drewN HW.out _⟩

set_option maxRecDepth 100000 in
set_option maxHeartbeats 800000 in
theorem at_c (va : Value) (a : List Rg) (i : Int) (w : World) (ha : RgAt w va a) (hla : a.length ≤ 4096) (hi0 : -9223372036854775808 ≤ i ∧ i ≤ 9223372036854775807) :
    Calls Tryz.prog 140 #[va, .int .i64 i] w fun e w' => e = .returned (atV (if i < 0 then none else atL (norm a) i)) ∧ Below w.heap.size w w' := by
  obtain ⟨ao, cap, rfl, _⟩ := ha.shape
  by_cases hneg : i < 0
  · go_enter Tryz.func140, Tryz.ntmps140
    go_wp2
    go_ret2
    exact ⟨rfl, Below.refl _ _⟩
  rw [if_neg hneg]
  have CA : Hid (Calls Tryz.prog 31 #[.slice ao a.length cap] w (RetR (norm a) w)) := norm_c _ _ w ha hla
  have HBD : Hid (∀ p ∈ norm a, -200 ≤ p.1 ∧ p.1 ≤ p.2 ∧ p.2 ≤ 200) := norm_bounds a
  have hln : (norm a).length ≤ 201 := norm_len a
  clear ha
  generalize hNA : norm a = na at CA hln HBD ⊢
  clear hNA
  obtain ⟨hi1, hi2⟩ := hi0
  go_enter Tryz.func140, Tryz.ntmps140
  go_wp2_with (first
    | (go_at_call 31; (with_reducible refine CA.out.mono ?_); rintro e W ⟨a1, c1, rfl, hr1, hb1⟩; have HR1 := Lib.hid hr1; have HW := Lib.hid hb1; clear hr1 hb1))
  go_loopw [1, 14] (fun f s wr => ∃ k : Nat, ∃ fz : Int, k ≤ na.length ∧ s = .int .i64 k ∧ f = .int .i64 fz ∧ 0 ≤ fz ∧ fz ≤ 9223372036854775807 ∧ atL na i = atL (na.drop k) fz ∧ Below W.heap.size W wr) (fun _ s _ => na.length - (intOf s).toNat)
  case atStart => exact ⟨0, i, by omega, rfl, rfl, by omega, by omega, rfl, Below.refl _ _⟩
  case round =>
    obtain ⟨k, fz, hk, rfl, rfl, hf1, hf2, hf, hbel⟩ := hrel
    have hle : W.heap.size ≤ wr.heap.size := hbel.size
    have HB := Lib.hid hbel
    clear hbel
    by_cases hlt : k < na.length
    · obtain ⟨b, off, c', he, hcap, hbs, hc⟩ := RgAt.at HR1.out (by omega)
      simp only [Value.slice.injEq, true_and] at he
      obtain ⟨rfl, rfl⟩ := he
      obtain ⟨c1, c2⟩ := hc k hlt
      rw [← HB.out.cell (p := ⟨b, off + k * 2, none⟩) hbs] at c1
      rw [← HB.out.cell (p := ⟨b, off + k * 2 + 1, none⟩) hbs] at c2
      have hbd := HBD.out _ (List.getElem_mem hlt)
      rw [List.drop_eq_getElem_cons hlt, atL] at hf
      obtain ⟨r, hr⟩ : ∃ r, r = na[k] := ⟨_, rfl⟩
      rw [← hr] at c1 c2 hf hbd
      have HF := Lib.hid hf
      clear hc hr hf
      obtain ⟨hd1, hd2, hd3⟩ := hbd
      have hbe : b ≠ wr.heap.size := by have := hbs; omega
      by_cases hx : fz ≥ r.2 - r.1 + 1
      · rw [if_pos hx] at HF
        go_wp2
        exact ⟨⟨k + 1, fz - (r.2 - r.1 + 1), by omega, by go_num, by first | rfl | go_num, by omega, by omega, HF.out, HB.out.alloc hle _⟩, by simp [intOf]; omega⟩
      · rw [if_neg hx] at HF
        go_wp2
        go_ret2
        exact ⟨by rw [HF.out]; rfl, HW.out.trans ((HB.out.alloc hle _).mono HW.out.size)⟩
    · obtain rfl : k = na.length := by omega
      rw [List.drop_length, atL] at hf
      have HF := Lib.hid hf
      clear hf
      go_wp2
      go_ret2
      exact ⟨by rw [HF.out]; rfl, HW.out.trans (HB.out.mono HW.out.size)⟩
end Go.Proofs.YtajooiainglpmaaGreat
namespace Go.Proofs.YtajooiainglpmaaGreat
open Go.RowKit

theorem cellsR_one' (rs : List Rg) : ∀ u ∈ cellsR rs, u.oneCell' = true := cellsR_one rs

set_option maxRecDepth 100000 in
set_option maxHeartbeats 1600000 in
theorem normal_c (va : Value) (a : List Rg) (w : World) (ha : RgAt w va a) (hla : a.length ≤ 4096) :
    Calls Tryz.prog 58 #[va] w fun e w' => ∃ r : Bool, e = .returned (.bool r) ∧ (r = true → Normal a) ∧ ∃ q, w' = w.drewN q := by
  obtain ⟨ao, cap, rfl, _⟩ := ha.shape
  have HA := Lib.hid ha
  clear ha
  go_enter Tryz.func58, Tryz.ntmps58
  go_wp2
  go_loopw [3] (fun s wr => ∃ k q : Nat, k ≤ a.length ∧ s = .int .i64 k ∧ Normal (a.take k) ∧ wr = w.drewN q) (fun s _ => a.length - (intOf s).toNat)
  case atStart => exact ⟨0, 0, by omega, rfl, trivial, rfl⟩
  case round =>
    obtain ⟨k, q, hk, rfl, hN, rfl⟩ := hrel
    by_cases hlt : k < a.length
    · obtain ⟨b, off, c', he, hcap, hbs, hc⟩ := RgAt.at HA.out (by omega)
      simp only [Value.slice.injEq, true_and] at he
      obtain ⟨rfl, rfl⟩ := he
      obtain ⟨c1, c2⟩ := hc k hlt
      have HT : Hid (a.take (k + 1) = a.take k ++ [a[k]]) := List.take_succ_eq_append_getElem hlt
      obtain ⟨r, hr⟩ : ∃ r, r = a[k] := ⟨_, rfl⟩
      rw [← hr] at c1 c2 HT
      clear hr
      have HN := Lib.hid hN
      clear hN
      by_cases h1 : r.1 > r.2
      · have g1 : decide (r.1 > r.2) = true := by simpa using h1
        clear hc
        go_wp2
        go_quiet (fail)
        go_wp2
        go_ret
        exact ⟨_, rfl, (fun h => by cases h), _, World.drewN_drewN _ _ _⟩
      have g1 : decide (r.1 > r.2) = false := by simpa using h1
      by_cases h2 : r.1 < -200
      · have g2 : decide (r.1 < -200) = true := by simpa using h2
        clear hc
        go_wp2
        go_quiet (fail)
        go_wp2
        go_ret
        exact ⟨_, rfl, (fun h => by cases h), _, World.drewN_drewN _ _ _⟩
      have g2 : decide (r.1 < -200) = false := by simpa using h2
      by_cases h3 : r.2 > 200
      · have g3 : decide (r.2 > 200) = true := by simpa using h3
        clear hc
        go_wp2
        go_quiet (fail)
        go_wp2
        go_ret
        exact ⟨_, rfl, (fun h => by cases h), _, World.drewN_drewN _ _ _⟩
      have g3 : decide (r.2 > 200) = false := by simpa using h3
      rcases Nat.eq_zero_or_pos k with rfl | hk0
      · clear hc
        have g4 : decide (((0 : Nat) : Int) > 0) = false := by simp
        have HK : Hid (Normal (a.take (0 + 1))) := by
          show Normal _
          rw [HT.out]
          exact normal_snoc.2 ⟨HN.out, by omega, by omega, by omega, fun q hq => by simp at hq⟩
        rw [Nat.zero_mul, Nat.add_zero] at c1 c2
        go_wp2
        go_quiet (fail)
        go_wp2
        exact ⟨⟨1, q + nq, by omega, rfl, HK.out, rfl⟩, by simp [intOf]; omega⟩
      · obtain ⟨m, rfl⟩ : ∃ m, k = m + 1 := ⟨k - 1, by omega⟩
        obtain ⟨d1, d2⟩ := hc m (by omega)
        obtain ⟨s, hs⟩ : ∃ s, s = a[m] := ⟨_, rfl⟩
        rw [← hs] at d1 d2
        have HG : Hid ((a.take (m + 1)).getLast? = some s) := by
          show _ = _
          rw [List.take_succ_eq_append_getElem (by omega), List.getLast?_concat, hs]
        clear hc hs d1
        have g4 : decide (((m + 1 : Nat) : Int) > 0) = true := by simp
        by_cases h5 : r.1 - 1 ≤ s.2
        · have g5 : decide (r.1 - 1 ≤ s.2) = true := by simpa using h5
          go_wp2
          go_quiet (fail)
          go_wp2
          go_ret
          exact ⟨_, rfl, (fun h => by cases h), _, World.drewN_drewN _ _ _⟩
        · have g5 : decide (r.1 - 1 ≤ s.2) = false := by simpa using h5
          have HK : Hid (Normal (a.take (m + 1 + 1))) := by
            show Normal _
            rw [HT.out]
            exact normal_snoc.2 ⟨HN.out, by omega, by omega, by omega, fun q hq => by rw [HG.out] at hq; cases hq; exact h5⟩
          go_wp2
          go_quiet (fail)
          go_wp2
          exact ⟨⟨m + 1 + 1, q + nq, by omega, by go_num, HK.out, rfl⟩, by simp [intOf]; omega⟩
    · obtain rfl : k = a.length := by omega
      rw [List.take_length] at hN
      go_wp2
      go_ret
      exact ⟨_, rfl, (fun _ => hN), _, rfl⟩

theorem way1 (a b : List Rg) : canon (wayS 1 a b) = meetL a b := by unfold meetL; exact canon_congr fun n _ _ => by simp [wayS]
theorem way2 (a b : List Rg) : canon (wayS 2 a b) = joinL a b := by unfold joinL; exact canon_congr fun n _ _ => by simp [wayS]
theorem way3 (a b : List Rg) : canon (wayS 3 a b) = minusL a b := by unfold minusL; exact canon_congr fun n _ _ => by simp [wayS]
theorem way2nil (a : List Rg) : canon (wayS 2 a []) = norm a := by rw [way2]; unfold joinL norm; exact canon_congr fun n _ _ => by rw [memL_nil, Bool.or_false]

set_option maxRecDepth 100000 in
set_option maxHeartbeats 800000 in
theorem refNorm_n (va : Value) (a : List Rg) (w : World) (ha : RgAt w va a) (hla : a.length ≤ 4096) :
    Calls Tryz.prog 29 #[va] w (RetN (norm a) w) := by
  obtain ⟨i0, hi, hz0, hz1, hz2⟩ := info_parts Tryz.infoRg
  obtain ⟨ao, cap, rfl, _⟩ := ha.shape
  have HA := Lib.hid ha
  have CN := Lib.hid (normal_c _ a w ha hla)
  have CL : Hid (∀ W, Below w.heap.size w W → Calls Tryz.prog 45 #[.slice ao a.length cap, .slice none 0 0, .int .i64 2] W (RetN (norm a) W)) := fun W h => by
    have := list_n _ (.slice none 0 0) a [] 2 (by simp) W (ha.below h) RgAt.nil hla (by simp)
    rwa [way2nil] at this
  have HNN : Hid (Normal a → norm a = a) := norm_of_normal
  clear ha
  generalize norm a = na at CL HNN ⊢
  go_enter Tryz.func29, Tryz.ntmps29
  go_wp2_with (first
    | (go_at_call 58; (with_reducible refine CN.out.mono ?_); rintro e w' ⟨r, rfl, hr, q, rfl⟩; have HR := Lib.hid hr; clear hr; cases r)
    | (at_builtin; refine wpList_append_sl rfl (.tmp 7) (.tmp 8) 22 rfl w.heap.size 32 i0 (.agg #[.int .i64 0, .int .i64 0]) 2 16 Tryz.underlying22 hi hz0 hz1 hz2 rfl (by decide) _ 0 [] rfl (World.ownsRow_made _ #[] 0 (Nat.le_refl _) (by decide) rfl) _ _ _ rfl (SlAt.alloc (SlAt.drewN HA.out _) _) (cellsR_one _) (by omega) (by simp) ?_; intro v1 w1 o1 b1 g1; clear g1)
    | (go_at_call 45; (with_reducible refine (CL.out _ (below_drewN (Below.refl _ _) _)).mono ?_); rintro e W ⟨a1, c1, rfl, hr1, hb1, hn1⟩))
  · go_ret
    exact ⟨_, _, rfl, hr1, (below_drewN (Below.refl _ _) _).trans hb1, hn1⟩
  · go_ret
    have hn := HNN.out (HR.out (by trivial))
    subst hn
    rw [Nat.zero_add, List.nil_append] at o1
    have hb : Below w.heap.size w w1 := by first | exact (((below_drewN (Below.refl _ _) _).alloc (Nat.le_refl _) _).trans b1) | exact ((below_drewN ((Below.refl _ _).alloc (Nat.le_refl _) _) _).trans b1)
    obtain ⟨oa, oc, rfl, _⟩ := (SlAt.of_own o1).shape
    exact ⟨_, _, rfl, RgAt.own o1, hb, fun b h => (o1.lt b h).1⟩

theorem refNorm_c (va : Value) (a : List Rg) (w : World) (ha : RgAt w va a) (hla : a.length ≤ 4096) :
    Calls Tryz.prog 29 #[va] w (RetR (norm a) w) := (refNorm_n va a w ha hla).mono fun _ _ h => h.toR
theorem refMeet_n (va vb : Value) (a b : List Rg) (w : World) (ha : RgAt w va a) (hb : RgAt w vb b) (hla : a.length ≤ 4096) (hlb : b.length ≤ 4096) :
    Calls Tryz.prog 20 #[va, vb] w (RetN (meetL a b) w) := by
  obtain ⟨ao, cap, rfl, _⟩ := ha.shape
  obtain ⟨ao2, cap2, rfl, _⟩ := hb.shape
  have C := Lib.hid (list_n _ _ a b 1 (by simp) w ha hb hla hlb)
  rw [way1] at C
  clear ha hb
  generalize meetL a b = me at C ⊢
  go_enter Tryz.func20, Tryz.ntmps20
  go_wp2_with (go_at_call 45; (with_reducible refine C.out.mono ?_); rintro e W ⟨a1, c1, rfl, hr1, hb1, hn1⟩)
  go_ret
  exact ⟨_, _, rfl, hr1, hb1, hn1⟩
theorem refMeet_c (va vb : Value) (a b : List Rg) (w : World) (ha : RgAt w va a) (hb : RgAt w vb b) (hla : a.length ≤ 4096) (hlb : b.length ≤ 4096) :
    Calls Tryz.prog 20 #[va, vb] w (RetR (meetL a b) w) := (refMeet_n va vb a b w ha hb hla hlb).mono fun _ _ h => h.toR
theorem refMinus_n (va vb : Value) (a b : List Rg) (w : World) (ha : RgAt w va a) (hb : RgAt w vb b) (hla : a.length ≤ 4096) (hlb : b.length ≤ 4096) :
    Calls Tryz.prog 21 #[va, vb] w (RetN (minusL a b) w) := by
  obtain ⟨ao, cap, rfl, _⟩ := ha.shape
  obtain ⟨ao2, cap2, rfl, _⟩ := hb.shape
  have C := Lib.hid (list_n _ _ a b 3 (by simp) w ha hb hla hlb)
  rw [way3] at C
  clear ha hb
  generalize minusL a b = me at C ⊢
  go_enter Tryz.func21, Tryz.ntmps21
  go_wp2_with (go_at_call 45; (with_reducible refine C.out.mono ?_); rintro e W ⟨a1, c1, rfl, hr1, hb1, hn1⟩)
  go_ret
  exact ⟨_, _, rfl, hr1, hb1, hn1⟩
theorem refMinus_c (va vb : Value) (a b : List Rg) (w : World) (ha : RgAt w va a) (hb : RgAt w vb b) (hla : a.length ≤ 4096) (hlb : b.length ≤ 4096) :
    Calls Tryz.prog 21 #[va, vb] w (RetR (minusL a b) w) := (refMinus_n va vb a b w ha hb hla hlb).mono fun _ _ h => h.toR
theorem rgAt_lit2 (w : World) (r : Rg) (T : TypeId) : RgAt (w.alloc (.cells #[.int .i64 r.1, .int .i64 r.2] T)) (.slice (some ⟨w.heap.size, 0, none⟩) 1 1) [r] :=
  RgAt.own (e := T) (World.ownsRow_lit (base := 0) w #[.int .i64 r.1, .int .i64 r.2] 1 (Nat.zero_le _) (by simp [maxLen]) rfl)
theorem minus_whole (a : List Rg) : minusL [(-200, 200)] a = complL a := by
  unfold minusL complL
  exact canon_congr fun n h1 h2 => by simp [memL_cons, memL_nil, h1, h2]
end Go.Proofs.YtajooiainglpmaaGreat
namespace Go.Proofs.YtajooiainglpmaaGreat
open Go.RowKit

/-- slices.ContainsFunc of no element -/
theorem contains_none (p : Option Addr) (cap : Nat) (fv : Value) (w : World) :
    Calls Tryz.prog 149 #[.slice p 0 cap, fv] w fun e w' => e = .returned (.bool false) ∧ w = w' := by
  have CI : Hid (Calls Tryz.prog 152 #[.slice p 0 cap, fv] w fun e w' => e = .returned (.int .i64 (-1)) ∧ w = w') := by
    show Calls _ _ _ _ _
    go_enter Tryz.func152, Tryz.ntmps152
    go_wp2
    go_loopw [8] (fun s wr => s = .int .i64 0 ∧ wr = w) (fun _ _ => 0)
    case atStart => exact ⟨rfl, rfl⟩
    case round =>
      obtain ⟨rfl, rfl⟩ := hrel
      go_wp2
      go_ret
      exact ⟨rfl, rfl⟩
  go_enter Tryz.func149, Tryz.ntmps149
  go_wp2_with (go_at_call 152; (with_reducible refine CI.out.mono ?_); rintro e w' ⟨rfl, rfl⟩)
  go_ret
  exact ⟨rfl, rfl⟩

set_option maxRecDepth 100000 in
theorem hasFn_c (n : Int) (B : Nat) (w : World) (hB : B < w.heap.size) (hcell : w.cell? ⟨B, 0, none⟩ = some (.int .i64 n)) :
    Go.Proofs.PredBelow Tryz.prog 150 #[.pointer (some ⟨B, 0, none⟩)] (fun x => .agg (encR x).toArray) (fun x => decide (x.1 ≤ n) && decide (n ≤ x.2)) w := fun W x hb => by
  have hc : W.cell? ⟨B, 0, none⟩ = some (.int .i64 n) := (hb.cell (p := ⟨B, 0, none⟩) hB).trans hcell
  have hBW : B < W.heap.size := Nat.lt_of_lt_of_le hB hb.size
  have hne : B ≠ W.heap.size := by omega
  show Calls Tryz.prog 150 #[.agg #[.int .i64 x.1, .int .i64 x.2], .pointer (some ⟨B, 0, none⟩)] W _
  by_cases h1 : x.1 ≤ n
  · by_cases h2 : n ≤ x.2
    all_goals
      go_enter Tryz.func150, Tryz.ntmps150
      go_wp2
      all_goals (go_ret; exact ⟨ret_bool (by simp [h1, h2]), hb.alloc hb.size _⟩)
  · go_enter Tryz.func150, Tryz.ntmps150
    go_wp2
    all_goals (go_ret; exact ⟨ret_bool (by simp; omega), hb.alloc hb.size _⟩)

set_option maxRecDepth 100000 in
set_option maxHeartbeats 800000 in
theorem has_c (va : Value) (a : List Rg) (n : Int) (w : World) (ha : RgAt w va a) (hla : a.length ≤ 4096) :
    Calls Tryz.prog 147 #[va, .int .i64 n] w fun e w' => e = .returned (.bool (inD n && memL a n)) ∧ Below w.heap.size w w' := by
  obtain ⟨ao, cap, rfl, _⟩ := ha.shape
  by_cases h1 : n < -200
  · go_enter Tryz.func147, Tryz.ntmps147
    go_wp2
    go_ret
    exact ⟨ret_bool (by symm; simp [inD]; omega), (Below.refl _ _).alloc (Nat.le_refl _) _⟩
  by_cases h2 : 200 < n
  · go_enter Tryz.func147, Tryz.ntmps147
    go_wp2
    go_ret
    exact ⟨ret_bool (by symm; simp [inD]; omega), (Below.refl _ _).alloc (Nat.le_refl _) _⟩
  have HI : Hid ((inD n && memL a n) = memL a n) := by show _ = _; simp [inD, show -200 ≤ n by omega, show n ≤ 200 by omega]
  rw [HI.out]
  clear HI
  have eg : ∀ args w, (callFunc 150 args).run Tryz.prog w = .ok (.enter 150 args) w := enters_of Tryz.func150 (by kernel_rfl) rfl
  have CC : Hid (∀ T, Calls Tryz.prog 149 #[.slice ao a.length cap, .func (.func 150) #[] #[.pointer (some ⟨w.heap.size, 0, none⟩)]] (w.alloc (.cells #[.int .i64 n] T)) fun e w' =>
      e = .returned (.bool (memL a n)) ∧ Below w.heap.size (w.alloc (.cells #[.int .i64 n] T)) w') := fun T => by
    have hb0 : Below w.heap.size w (w.alloc (.cells #[.int .i64 n] T)) := (Below.refl _ _).alloc (Nat.le_refl _) _
    rcases Nat.eq_zero_or_pos a.length with h0 | h0
    · obtain rfl := List.eq_nil_of_length_eq_zero h0
      exact (contains_none ao cap _ _).mono fun e w' ⟨he, hw⟩ => ⟨he, by rw [← hw]; exact Below.refl _ _⟩
    · obtain ⟨b, off, c', he, hcap, hbs, hc⟩ := RgAt.at (ha.below hb0) h0
      simp only [Value.slice.injEq, true_and] at he
      obtain ⟨rfl, rfl⟩ := he
      have hcon := AnyQ.slices_ContainsFunc Tryz.contRg 2 Tryz.isAgg32 Tryz.sizeOf32 encR (fun _ => rfl) (fun x => decide (x.1 ≤ n) && decide (n ≤ x.2)) 150 #[.pointer (some ⟨w.heap.size, 0, none⟩)] eg b off a.length cap a
        (w.alloc (.cells #[.int .i64 n] T)) (hasFn_c n w.heap.size _ (by simp) (by simp)) (Nat.le_refl _) (by omega) hbs (fun j hj i v hi => by
          obtain ⟨e1, e2⟩ := hc j hj
          rw [getElem!_pos a j hj] at hi
          match i, hi with
          | 0, hi => simp [encR] at hi; rw [← hi]; exact e1
          | 1, hi => simp [encR] at hi; rw [← hi]; exact e2
          | i + 2, hi => simp [encR] at hi)
      change Calls Tryz.prog 149 _ _ _ at hcon
      rw [List.take_length] at hcon
      exact hcon.mono fun e w' ⟨he, hb⟩ => ⟨he, hb.mono (by simp)⟩
  clear ha eg
  generalize memL a n = r at *
  go_enter Tryz.func147, Tryz.ntmps147
  go_wp2_with (go_at_call 149; (with_reducible refine (CC.out _).mono ?_); rintro e W ⟨rfl, hb⟩)
  go_ret
  exact ⟨rfl, ((Below.refl _ _).alloc (Nat.le_refl _) _).trans hb⟩
end Go.Proofs.YtajooiainglpmaaGreat
namespace Go.Proofs.YtajooiainglpmaaGreat
open Go.RowKit

set_option maxRecDepth 100000 in
set_option maxHeartbeats 800000 in
theorem refEnds_c (va : Value) (a : List Rg) (w : World) (ha : RgAt w va a) (hla : a.length ≤ 4096) :
    Calls Tryz.prog 99 #[va] w fun e w' => e = .returned (endV (norm a)) ∧ Below w.heap.size w w' := by
  obtain ⟨ao, cap, rfl, _⟩ := ha.shape
  have CA : Hid (Calls Tryz.prog 29 #[.slice ao a.length cap] w (RetR (norm a) w)) := refNorm_c _ _ w ha hla
  have hln : (norm a).length ≤ 201 := norm_len a
  clear ha
  generalize hNA : norm a = na at CA hln ⊢
  clear hNA
  rcases List.eq_nil_or_concat na with rfl | ⟨M, p, rfl⟩
  · rw [show ([] : List Rg).length = 0 from rfl] at *
    go_enter Tryz.func99, Tryz.ntmps99
    go_wp2_with (first
      | (go_at_call 29; (with_reducible refine CA.out.mono ?_); rintro e W ⟨a1, c1, rfl, hr1, hb1⟩; rw [show ([] : List Rg).length = 0 from rfl]; have HW := Lib.hid hb1; clear hr1 hb1))
    go_ret3
    exact ⟨rfl, HW.out⟩
  · rw [List.concat_eq_append] at *
    go_enter Tryz.func99, Tryz.ntmps99
    have hML : (M ++ [p]).length = M.length + 1 := by simp
    have HEV : Hid (endV (M ++ [p]) = .tuple #[.int .i64 ((M ++ [p])[0]'(by simp)).1, .int .i64 p.2, .bool true]) := by
      show _ = _
      cases M with
      | nil => rfl
      | cons r M =>
        have hl : (r :: (M ++ [p])).getLast (by simp) = p := by
          have h1 : (r :: (M ++ [p])).getLast? = some p := List.getLast?_concat (l := r :: M) (a := p)
          rw [List.getLast?_eq_some_getLast (by simp)] at h1
          exact Option.some.inj h1
        show Value.tuple #[_, .int .i64 ((r :: (M ++ [p])).getLast _).2, _] = _
        rw [hl]
        rfl
    have hz : ((M.length : Int) + 1 == 0) = false := beq_eq_false_iff_ne.2 (by omega)
    go_wp2_with (first
      | (go_at_call 29; (with_reducible refine CA.out.mono ?_); rintro e W ⟨a1, c1, rfl, hr1, hb1⟩; have HR1 := Lib.hid hr1; have HW := Lib.hid hb1; clear hr1 hb1; rw [hML]))
    obtain ⟨b, off, c', he, hcap, hbs, hc⟩ := RgAt.at HR1.out (by simp)
    simp only [Value.slice.injEq, true_and] at he
    obtain ⟨rfl, _, rfl⟩ := he
    have c1 := (hc 0 (by simp)).1
    have c2 := (hc M.length (by simp)).2
    simp only [Nat.zero_mul, Nat.add_zero, List.getElem_append_right, Nat.le_refl, Nat.sub_self, List.getElem_cons_zero] at c1 c2
    clear hc
    obtain ⟨x, hx⟩ : ∃ x, x = ((M ++ [p])[0]'(by simp)).1 := ⟨_, rfl⟩
    rw [← hx] at c1 HEV
    clear hx
    go_wp2
    go_quiet (fail)
    go_wp2
    go_ret3
    exact ⟨by rw [HEV.out]; rfl, below_drewN HW.out _⟩
set_option maxRecDepth 100000 in
set_option maxHeartbeats 800000 in
theorem refSize_c (va : Value) (a : List Rg) (w : World) (ha : RgAt w va a) (hla : a.length ≤ 4096) :
    Calls Tryz.prog 10 #[va] w fun e w' => e = .returned (.int .i64 (sizeL (norm a))) ∧ Below w.heap.size w w' := by
  obtain ⟨ao, cap, rfl, _⟩ := ha.shape
  have CA : Hid (Calls Tryz.prog 29 #[.slice ao a.length cap] w (RetR (norm a) w)) := refNorm_c _ _ w ha hla
  have HBD : Hid (∀ p ∈ norm a, -200 ≤ p.1 ∧ p.1 ≤ p.2 ∧ p.2 ≤ 200) := norm_bounds a
  have HS : Hid (∀ k, 0 ≤ sizeL ((norm a).take k) ∧ sizeL ((norm a).take k) ≤ 402) := fun k => sizeL_bounds _ (-200) (by decide) ((norm_normal a).take k)
  have hln : (norm a).length ≤ 201 := norm_len a
  clear ha
  generalize hNA : norm a = na at CA hln HBD HS ⊢
  clear hNA
  go_enter Tryz.func10, Tryz.ntmps10
  go_wp2_with (first
    | (go_at_call 29; (with_reducible refine CA.out.mono ?_); rintro e W ⟨a1, c1, rfl, hr1, hb1⟩; have HR1 := Lib.hid hr1; have HW := Lib.hid hb1; clear hr1 hb1))
  go_loopw [4, 5] (fun f s wr => ∃ k q : Nat, ∃ fz : Int, k ≤ na.length ∧ s = .int .i64 k ∧ f = .int .i64 fz ∧ fz = sizeL (na.take k) ∧ wr = W.drewN q) (fun _ s _ => na.length - (intOf s).toNat)
  case atStart => exact ⟨0, 0, 0, by omega, rfl, rfl, rfl, rfl⟩
  case round =>
    obtain ⟨k, q, fz, hk, rfl, rfl, hf, rfl⟩ := hrel
    have HF := Lib.hid hf
    have hfb := HS.out k
    rw [← HF.out] at hfb
    obtain ⟨hf1, hf2⟩ := hfb
    clear hf
    by_cases hlt : k < na.length
    · obtain ⟨b, off, c', he, hcap, hbs, hc⟩ := RgAt.at HR1.out (by omega)
      simp only [Value.slice.injEq, true_and] at he
      obtain ⟨rfl, rfl⟩ := he
      obtain ⟨c1, c2⟩ := hc k hlt
      have hbd := HBD.out _ (List.getElem_mem hlt)
      have HT : Hid (sizeL (na.take (k + 1)) = fz + (na[k].2 - na[k].1 + 1)) := by
        show _ = _
        rw [List.take_succ_eq_append_getElem hlt, sizeL_append, HF.out]; simp only [sizeL]; omega
      obtain ⟨r, hr⟩ : ∃ r, r = na[k] := ⟨_, rfl⟩
      rw [← hr] at c1 c2 HT hbd
      clear hc hr
      obtain ⟨hd1, hd2, hd3⟩ := hbd
      go_wp2
      go_quiet (fail)
      go_wp2
      refine ⟨⟨k + 1, q + nq, fz + r.2 - r.1 + 1, by omega, by go_num, by first | rfl | go_num, by rw [HT.out]; omega, rfl⟩, by simp [intOf]; omega⟩
    · obtain rfl : k = na.length := by omega
      go_wp2
      go_ret
      exact ⟨ret_int (by rw [HF.out, List.take_length]), below_drewN HW.out _⟩
set_option maxRecDepth 100000 in
set_option maxHeartbeats 800000 in
theorem refAt_c (va : Value) (a : List Rg) (i : Int) (w : World) (ha : RgAt w va a) (hla : a.length ≤ 4096) (hi0 : -9223372036854775808 ≤ i ∧ i ≤ 9223372036854775807) :
    Calls Tryz.prog 15 #[va, .int .i64 i] w fun e w' => e = .returned (atV (if i < 0 then none else atL (norm a) i)) ∧ w = w' := by
  obtain ⟨ao, cap, rfl, _⟩ := ha.shape
  have CH : Hid (∀ n, Calls Tryz.prog 16 #[.slice ao a.length cap, .int .i64 n] w fun e w' => e = .returned (.bool (inD n && memL a n)) ∧ w = w') := fun n => refHas_c _ a n w ha hla
  by_cases hneg : i < 0
  · clear CH
    go_enter Tryz.func15, Tryz.ntmps15
    go_wp2
    go_loop [1, 6] (fun f s => f = .int .i64 i ∧ s = .int .i64 (-200)) (fun _ s => 0)
    case atStart => exact ⟨rfl, rfl⟩
    case round =>
      obtain ⟨rfl, rfl⟩ := hrel
      go_wp2
      go_ret2
      exact ⟨rfl, rfl⟩
  have HA : Hid ((if i < 0 then none else atL (norm a) i) = seek (memL a) 401 (-200) i) := by
    show _ = _
    rw [if_neg hneg, norm, atL_canon _ i (by omega)]
  rw [HA.out]
  clear HA ha
  generalize hres : seek (memL a) 401 (-200) i = RES
  have HRES := Lib.hid hres
  clear hres
  obtain ⟨hi1, hi2⟩ := hi0
  go_enter Tryz.func15, Tryz.ntmps15
  go_wp2
  go_loop [1, 6] (fun f s => ∃ k : Nat, ∃ fz : Int, k ≤ 401 ∧ s = .int .i64 (201 - (k : Int)) ∧ f = .int .i64 fz ∧ 0 ≤ fz ∧ fz ≤ 9223372036854775807 ∧ RES = seek (memL a) k (201 - (k : Int)) fz) (fun _ s => (201 - intOf s).toNat)
  case atStart => exact ⟨401, i, by omega, rfl, rfl, by omega, by omega, HRES.out.symm⟩
  case round =>
    obtain ⟨k, fz, hk, rfl, rfl, hf1, hf2, hf⟩ := hrel
    cases k with
    | zero =>
      have HF := Lib.hid hf
      clear hf
      go_wp2
      go_ret2
      exact ⟨by rw [HF.out]; rfl, rfl⟩
    | succ k =>
      have CH2 := Lib.hid (CH.out (201 - ((k + 1 : Nat) : Int)))
      have hin : inD (201 - ((k + 1 : Nat) : Int)) = true := by simp [inD]; omega
      rw [hin, Bool.true_and] at CH2
      rw [seek] at hf
      have hn : 201 - ((k + 1 : Nat) : Int) + 1 = 201 - (k : Int) := by push_cast; omega
      rw [hn] at hf
      have hb1 : -200 ≤ 201 - ((k + 1 : Nat) : Int) := by omega
      have hb2 : 201 - ((k + 1 : Nat) : Int) ≤ 200 := by omega
      generalize 201 - ((k + 1 : Nat) : Int) = n at *
      generalize memL a n = xa at *
      cases xa
      · have HF : Hid (RES = seek (memL a) k (201 - (k : Int)) fz) := hf
        clear hf
        go_wp2_with (go_at_call 16; (with_reducible refine CH2.out.mono ?_); rintro e w' ⟨rfl, rfl⟩)
        exact ⟨⟨k, fz, by omega, by rw [← hn], rfl, hf1, hf2, HF.out⟩, by simp [intOf]; omega⟩
      · by_cases h0 : fz = 0
        · subst h0
          have HF : Hid (RES = some n) := hf
          clear hf
          go_wp2_with (go_at_call 16; (with_reducible refine CH2.out.mono ?_); rintro e w' ⟨rfl, rfl⟩)
          go_ret2
          exact ⟨by rw [HF.out]; rfl, rfl⟩
        · have hz : (fz == 0) = false := by simpa using h0
          have HF : Hid (RES = seek (memL a) k (201 - (k : Int)) (fz - 1)) := by
            show _ = _
            rw [hf, if_pos rfl, if_neg h0]
          clear hf
          go_wp2_with (go_at_call 16; (with_reducible refine CH2.out.mono ?_); rintro e w' ⟨rfl, rfl⟩)
          exact ⟨⟨k, fz - 1, by omega, by rw [← hn], by first | rfl | go_num, by omega, by omega, HF.out⟩, by simp [intOf]; omega⟩
end Go.Proofs.YtajooiainglpmaaGreat
namespace Go.Proofs.YtajooiainglpmaaGreat
open Go.RowKit Go.ChangeShapes Go.WideShapes Go.ChangeAt

theorem cellsRg : Tryz.prog.cellsOf 32 = 2 := by kernel_rfl
theorem cellsInt : Tryz.prog.cellsOf 3 = 1 := by kernel_rfl
theorem pair_cut {xs : List Value} {n i : Nat} (hl : xs.length = n * 2) (hi : i < n) : ∃ x0 x1, xs[i * 2]? = some x0 ∧ xs[i * 2 + 1]? = some x1 ∧ (xs.drop (i * 2)).take 2 = [x0, x1] := by
  have h0 : i * 2 < xs.length := by omega
  have h1 : i * 2 + 1 < xs.length := by omega
  refine ⟨xs[i * 2], xs[i * 2 + 1], List.getElem?_eq_getElem h0, List.getElem?_eq_getElem h1, ?_⟩
  rw [List.drop_eq_getElem_cons h0, List.drop_eq_getElem_cons h1]
  rfl
set_option maxRecDepth 100000 in
theorem open_rgs {H : Type} {enc : TypeId × Value → H} {w : World} {sp : Nat → Bool} {held : Bool} {base : Nat} {v : Value} {d : DataW H} {ps : List MemPlace}
    (hval : Value.okWide Tryz.prog w .any base 22 v) (h0 : DataW.Trod enc Tryz.prog w 0 sp held 22 v d ps) : ∃ rs : List Rg, RgAt w v rs := by
  obtain ⟨a0, l0, c0, rfl⟩ := okWide_slice Tryz.underlying22 hval
  obtain ⟨fuel, h⟩ := Joins.field_of_Trod h0 rfl
  obtain ⟨n, xs, hS, hE⟩ := open_sl (k := 2) Tryz.underlying22 cellsRg h
  have hl := hS.len
  have hx : ∀ i, i < n → ∃ r : Rg, xs[i * 2]? = some (.int .i64 r.1) ∧ xs[i * 2 + 1]? = some (.int .i64 r.2) := fun i hi => by
    obtain ⟨m, y, hy⟩ := hE i hi
    obtain ⟨x0, x1, e0, e1, e2⟩ := pair_cut hl hi
    rw [e2] at hy
    obtain ⟨y0, y1, q, _, _, t0, t1⟩ := trod_struct2 Tryz.underlying32 hy
    obtain ⟨z0, hz0, _, _⟩ := DataW.trod_int Tryz.underlying3 t0
    obtain ⟨z1, hz1, _, _⟩ := DataW.trod_int Tryz.underlying3 t1
    refine ⟨(z0, z1), ?_, ?_⟩
    · rw [e0]; simp [cellsInt] at hz0; rw [hz0]
    · rw [e1]; simp [cellsInt] at hz1; rw [hz1]
  obtain ⟨f, hf⟩ := Deep.choose_lt hx
  refine ⟨(List.range n).map f, ?_⟩
  have e : xs = cellsR ((List.range n).map f) := by
    apply List.ext_getElem?
    intro t
    by_cases ht : t < n * 2
    · have hd : t / 2 < ((List.range n).map f).length := by simp; omega
      obtain ⟨a, b⟩ := cellsR_at ((List.range n).map f) (t / 2) hd
      obtain ⟨f0, f1⟩ := hf (t / 2) (by omega)
      have e3 : ((List.range n).map f)[t / 2] = f (t / 2) := by simp
      rw [e3] at a b
      rcases (show t % 2 = 0 ∨ t % 2 = 1 by omega) with h | h
      · rw [show xs[t]? = xs[t / 2 * 2]? by congr 1; omega, f0, show (cellsR ((List.range n).map f))[t]? = (cellsR ((List.range n).map f))[t / 2 * 2]? by congr 1; omega, a]
      · rw [show xs[t]? = xs[t / 2 * 2 + 1]? by congr 1; omega, f1, show (cellsR ((List.range n).map f))[t]? = (cellsR ((List.range n).map f))[t / 2 * 2 + 1]? by congr 1; omega, b]
    · rw [List.getElem?_eq_none (by omega), List.getElem?_eq_none (by rw [cellsR_length]; simp; omega)]
  unfold RgAt
  rw [← e]
  simpa using hS
end Go.Proofs.YtajooiainglpmaaGreat
