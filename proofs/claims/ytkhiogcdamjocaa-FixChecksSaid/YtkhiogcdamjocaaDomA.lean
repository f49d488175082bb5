/-
  dom.Meet, dom.Compl, dom.Minus, walked.
-/
import Derived.Test.YtkhiogcdamjocaaNorm
import Derived.Test.YtkhiogcdamjocaaPl2
namespace Go.Proofs.Ytkhiogcdamjocaa
open Go.RowKit

set_option maxRecDepth 100000 in
set_option maxHeartbeats 1600000 in
theorem meet_c (va vb : Value) (a b : List Rg) (w : World) (ha : RgAt w va a) (hb : RgAt w vb b) (hla : a.length ≤ 4096) (hlb : b.length ≤ 4096) :
    Calls Try.prog 48 #[va, vb] w (RetR (meetL a b) w) := by
  obtain ⟨i0, hi, hz0, hz1, hz2⟩ := info_parts Try.infoRg
  obtain ⟨ao, cap, rfl, _⟩ := ha.shape
  obtain ⟨ao2, cap2, rfl, _⟩ := hb.shape
  have CA : Hid (∀ W, Below w.heap.size w W → Calls Try.prog 61 #[.slice ao a.length cap] W (RetR (norm a) W)) := fun W h => norm_c _ _ W (ha.below h) hla
  have CB : Hid (∀ W, Below w.heap.size w W → Calls Try.prog 61 #[.slice ao2 b.length cap2] W (RetR (norm b) W)) := fun W h => norm_c _ _ W (hb.below h) hlb
  have HN : Hid (meetM (norm a) (norm b) = meetL a b) := meetM_norm a b
  have hln : (norm a).length ≤ 201 := norm_len a
  have hln2 : (norm b).length ≤ 201 := norm_len b
  have hlm : (meetL a b).length ≤ 201 := canon_len _
  clear ha hb
  generalize hNA : norm a = na at CA HN hln
  generalize hNB : norm b = nb at CB HN hln2
  generalize hME : meetL a b = me at HN hlm ⊢
  clear hNA hNB hME
  go_enter Try.func48, Try.ntmps48
  have hB0 : Hid (Below w.heap.size w w) := Below.refl _ _
  go_wp2_with (first
    | (go_at_call 61; (with_reducible refine (CA.out _ hB0.out).mono ?_); rintro e w1 ⟨a1, c1, rfl, hr1, hb1⟩; have HR1 := Lib.hid hr1; have HB1 := Lib.hid hb1; clear hr1 hb1)
    | (go_at_call 61; (with_reducible refine (CB.out _ HB1.out).mono ?_); rintro e W ⟨a2, c2, rfl, hr2, hb2⟩; have HR2 := Lib.hid hr2; have HR1' := Lib.hid (HR1.out.below hb2); have HW := Lib.hid (HB1.out.trans (hb2.mono HB1.out.size)); clear hr2 hb2))
  go_loopw [5, 6, 7] (fun x y o wr => ∃ xs ys O : List Rg, ∃ ax cx ay cy, x = .slice ax xs.length cx ∧ y = .slice ay ys.length cy ∧ RgAt W x xs ∧ RgAt W y ys ∧ O ++ meetM xs ys = me ∧ wr.ownsRow W.heap.size 84 2 o O.length (cellsR O) ∧ Below W.heap.size W wr) (fun x y _ _ => slen x + slen y)
  case atStart => exact ⟨na, nb, [], _, _, _, _, rfl, rfl, HR1'.out, HR2.out, HN.out, World.ownsRow_nil _ _ _ _, Below.refl _ _⟩
  case round =>
    obtain ⟨xs, ys, O, ax, cx, ay, cy, rfl, rfl, hx, hy, hm, hown, hbel⟩ := hrel
    cases xs with
    | nil =>
      rw [meetM_nil, List.append_nil] at hm
      subst hm
      obtain ⟨oa, oc, rfl, _⟩ := (SlAt.of_own hown).shape
      rw [show ([] : List Rg).length = 0 from rfl] at hx ⊢
      go_wp2
      go_ret
      exact ⟨_, _, rfl, RgAt.own hown, HW.out.trans (hbel.mono HW.out.size)⟩
    | cons r xs =>
      cases ys with
      | nil =>
        rw [meetM_nil2, List.append_nil] at hm
        subst hm
        obtain ⟨oa, oc, rfl, _⟩ := (SlAt.of_own hown).shape
        rw [show ([] : List Rg).length = 0 from rfl] at hy ⊢
        rw [List.length_cons] at hx ⊢
        go_wp2
        go_ret
        exact ⟨_, _, rfl, RgAt.own hown, HW.out.trans (hbel.mono HW.out.size)⟩
      | cons s ys =>
        obtain ⟨bx, ox, cx', he, hcx, hbx, hc⟩ := RgAt.at hx (by simp)
        simp only [Value.slice.injEq, true_and] at he
        obtain ⟨rfl, rfl⟩ := he
        obtain ⟨by', oy, cy', he, hcy, hby, hd⟩ := RgAt.at hy (by simp)
        simp only [Value.slice.injEq, true_and] at he
        obtain ⟨rfl, rfl⟩ := he
        have e1 := hc 0 (by simp)
        have e2 := hd 0 (by simp)
        simp only [Nat.zero_mul, Nat.add_zero, List.getElem_cons_zero] at e1 e2
        clear hc hd
        have HX := Lib.hid (fun (W' : World) (h : Below W.heap.size W W') => And.intro ((h.cell (p := ⟨bx, ox, none⟩) hbx).trans e1.1) (And.intro ((h.cell (p := ⟨bx, ox + 1, none⟩) hbx).trans e1.2)
          (And.intro ((h.cell (p := ⟨by', oy, none⟩) hby).trans e2.1) ((h.cell (p := ⟨by', oy + 1, none⟩) hby).trans e2.2))))
        clear e1 e2
        have HSX := Lib.hid hx
        have HSY := Lib.hid hy
        have HM := Lib.hid hm
        have HB := Lib.hid hbel
        clear hx hy hm hbel
        rw [List.length_cons] at hcx hcy ⊢
        rw [List.length_cons]
        have hx0 : 0 < xs.length + 1 := by omega
        obtain ⟨oa, oc, rfl, _⟩ := (SlAt.of_own hown).shape
        have hy0 : 0 < ys.length + 1 := by omega
        rw [meetM_cons] at HM
        obtain ⟨q1, q2, q3, q4⟩ := HX.out _ HB.out
        have hOl : O.length ≤ 201 := by have := congrArg List.length HM.out; simp at this; omega
        have hle : W.heap.size ≤ wr.heap.size := HB.out.size
        by_cases h1 : max r.1 s.1 ≤ min r.2 s.2
        · rw [if_pos h1] at HM
          by_cases h2 : r.2 < s.2
          · rw [if_pos h2] at HM
            rcases Nat.lt_or_ge 1 cx with h3 | h3
            · go_wp2
              go_region
              have HB2 : Hid (Below W.heap.size W wr.drew) := below_drewN HB.out 1
              have hown2 : wr.drew.ownsRow W.heap.size 84 2 (.slice oa O.length oc) O.length (cellsR O) := hown
              have hle2 : W.heap.size ≤ wr.drew.heap.size := hle
              clear q1 q2 q3 q4
              obtain ⟨q1, q2, q3, q4⟩ := HX.out _ HB2.out
              generalize wr.drew = w2 at HB2 hown2 hle2 q1 q2 q3 q4 ⊢
              go_wp2_with (at_builtin; refine wpList_append2 rfl (.tmp 43) (.tmp 47) 46 rfl W.heap.size 84 i0 (.agg #[.int .i64 0, .int .i64 0]) 16 Try.underlying46 hi hz0 hz1 hz2 rfl _ _ _ rfl hown2 _ _ rfl rfl rfl rfl (by omega) hle2 ?_; intro v1 w1 o1 b1 n1)
              obtain ⟨p1, p2, p3, p4⟩ := HX.out w1 (HB2.out.trans b1)
              go_quiet (fail)
              go_wp2
              refine ⟨⟨xs, s :: ys, O ++ [(max r.1 s.1, min r.2 s.2)], _, _, _, _, rfl, rfl, RgAt.tail_lt HSX.out, HSY.out, by rw [List.append_assoc]; exact HM.out, by rw [List.length_append, cellsR_append]; exact o1, below_drewN (HB2.out.trans b1) _⟩, ?_⟩
              simp only [slen_slice]
              omega
            · obtain rfl : cx = 1 := by omega
              have hxs : xs = [] := List.eq_nil_of_length_eq_zero (by omega)
              subst hxs
              rw [show ([] : List Rg).length = 0 from rfl] at * 
              go_wp2
              go_region
              have HB2 : Hid (Below W.heap.size W wr.drew) := below_drewN HB.out 1
              have hown2 : wr.drew.ownsRow W.heap.size 84 2 (.slice oa O.length oc) O.length (cellsR O) := hown
              have hle2 : W.heap.size ≤ wr.drew.heap.size := hle
              clear q1 q2 q3 q4
              obtain ⟨q1, q2, q3, q4⟩ := HX.out _ HB2.out
              generalize wr.drew = w2 at HB2 hown2 hle2 q1 q2 q3 q4 ⊢
              go_wp2_with (at_builtin; refine wpList_append2 rfl (.tmp 43) (.tmp 47) 46 rfl W.heap.size 84 i0 (.agg #[.int .i64 0, .int .i64 0]) 16 Try.underlying46 hi hz0 hz1 hz2 rfl _ _ _ rfl hown2 _ _ rfl rfl rfl rfl (by omega) hle2 ?_; intro v1 w1 o1 b1 n1)
              obtain ⟨p1, p2, p3, p4⟩ := HX.out w1 (HB2.out.trans b1)
              go_quiet (fail)
              go_wp2
              refine ⟨⟨[], s :: ys, O ++ [(max r.1 s.1, min r.2 s.2)], _, _, _, _, rfl, rfl, RgAt.empty 0, HSY.out, by rw [List.append_assoc]; exact HM.out, by rw [List.length_append, cellsR_append]; exact o1, below_drewN (HB2.out.trans b1) _⟩, ?_⟩
              simp only [slen_slice]
              omega
          · rw [if_neg h2] at HM
            have h2' : s.2 ≤ r.2 := by omega
            have h2d : decide (r.2 < s.2) = false := by simpa using h2
            rcases Nat.lt_or_ge 1 cy with h3 | h3
            · go_wp2
              go_region
              have HB2 : Hid (Below W.heap.size W wr.drew) := below_drewN HB.out 1
              have hown2 : wr.drew.ownsRow W.heap.size 84 2 (.slice oa O.length oc) O.length (cellsR O) := hown
              have hle2 : W.heap.size ≤ wr.drew.heap.size := hle
              clear q1 q2 q3 q4
              obtain ⟨q1, q2, q3, q4⟩ := HX.out _ HB2.out
              generalize wr.drew = w2 at HB2 hown2 hle2 q1 q2 q3 q4 ⊢
              go_wp2_with (at_builtin; refine wpList_append2 rfl (.tmp 43) (.tmp 47) 46 rfl W.heap.size 84 i0 (.agg #[.int .i64 0, .int .i64 0]) 16 Try.underlying46 hi hz0 hz1 hz2 rfl _ _ _ rfl hown2 _ _ rfl rfl rfl rfl (by omega) hle2 ?_; intro v1 w1 o1 b1 n1)
              obtain ⟨p1, p2, p3, p4⟩ := HX.out w1 (HB2.out.trans b1)
              go_quiet (fail)
              go_wp2
              refine ⟨⟨r :: xs, ys, O ++ [(max r.1 s.1, min r.2 s.2)], _, _, _, _, rfl, rfl, HSX.out, RgAt.tail_lt HSY.out, by rw [List.append_assoc]; exact HM.out, by rw [List.length_append, cellsR_append]; exact o1, below_drewN (HB2.out.trans b1) _⟩, ?_⟩
              simp only [slen_slice]
              omega
            · obtain rfl : cy = 1 := by omega
              have hxs : ys = [] := List.eq_nil_of_length_eq_zero (by omega)
              subst hxs
              rw [show ([] : List Rg).length = 0 from rfl] at * 
              go_wp2
              go_region
              have HB2 : Hid (Below W.heap.size W wr.drew) := below_drewN HB.out 1
              have hown2 : wr.drew.ownsRow W.heap.size 84 2 (.slice oa O.length oc) O.length (cellsR O) := hown
              have hle2 : W.heap.size ≤ wr.drew.heap.size := hle
              clear q1 q2 q3 q4
              obtain ⟨q1, q2, q3, q4⟩ := HX.out _ HB2.out
              generalize wr.drew = w2 at HB2 hown2 hle2 q1 q2 q3 q4 ⊢
              go_wp2_with (at_builtin; refine wpList_append2 rfl (.tmp 43) (.tmp 47) 46 rfl W.heap.size 84 i0 (.agg #[.int .i64 0, .int .i64 0]) 16 Try.underlying46 hi hz0 hz1 hz2 rfl _ _ _ rfl hown2 _ _ rfl rfl rfl rfl (by omega) hle2 ?_; intro v1 w1 o1 b1 n1)
              obtain ⟨p1, p2, p3, p4⟩ := HX.out w1 (HB2.out.trans b1)
              go_quiet (fail)
              go_wp2
              refine ⟨⟨r :: xs, [], O ++ [(max r.1 s.1, min r.2 s.2)], _, _, _, _, rfl, rfl, HSX.out, RgAt.empty 0, by rw [List.append_assoc]; exact HM.out, by rw [List.length_append, cellsR_append]; exact o1, below_drewN (HB2.out.trans b1) _⟩, ?_⟩
              simp only [slen_slice]
              omega
        · rw [if_neg h1, List.nil_append] at HM
          have h1' : min r.2 s.2 < max r.1 s.1 := by omega
          by_cases h2 : r.2 < s.2
          · rw [if_pos h2] at HM
            rcases Nat.lt_or_ge 1 cx with h3 | h3
            · go_wp2
              go_region
              have HB2 : Hid (Below W.heap.size W wr.drew) := below_drewN HB.out 1
              have hown2 : wr.drew.ownsRow W.heap.size 84 2 (.slice oa O.length oc) O.length (cellsR O) := hown
              have hle2 : W.heap.size ≤ wr.drew.heap.size := hle
              clear q1 q2 q3 q4
              obtain ⟨q1, q2, q3, q4⟩ := HX.out _ HB2.out
              generalize wr.drew = w2 at HB2 hown2 hle2 q1 q2 q3 q4 ⊢
              go_wp2
              go_quiet (fail)
              go_wp2
              refine ⟨⟨xs, s :: ys, O, _, _, _, _, rfl, rfl, RgAt.tail_lt HSX.out, HSY.out, HM.out, hown2, below_drewN (HB2.out) _⟩, ?_⟩
              simp only [slen_slice]
              omega
            · obtain rfl : cx = 1 := by omega
              have hxs : xs = [] := List.eq_nil_of_length_eq_zero (by omega)
              subst hxs
              rw [show ([] : List Rg).length = 0 from rfl] at * 
              go_wp2
              go_region
              have HB2 : Hid (Below W.heap.size W wr.drew) := below_drewN HB.out 1
              have hown2 : wr.drew.ownsRow W.heap.size 84 2 (.slice oa O.length oc) O.length (cellsR O) := hown
              have hle2 : W.heap.size ≤ wr.drew.heap.size := hle
              clear q1 q2 q3 q4
              obtain ⟨q1, q2, q3, q4⟩ := HX.out _ HB2.out
              generalize wr.drew = w2 at HB2 hown2 hle2 q1 q2 q3 q4 ⊢
              go_wp2
              go_quiet (fail)
              go_wp2
              refine ⟨⟨[], s :: ys, O, _, _, _, _, rfl, rfl, RgAt.empty 0, HSY.out, HM.out, hown2, below_drewN (HB2.out) _⟩, ?_⟩
              simp only [slen_slice]
              omega
          · rw [if_neg h2] at HM
            have h2' : s.2 ≤ r.2 := by omega
            have h2d : decide (r.2 < s.2) = false := by simpa using h2
            rcases Nat.lt_or_ge 1 cy with h3 | h3
            · go_wp2
              go_region
              have HB2 : Hid (Below W.heap.size W wr.drew) := below_drewN HB.out 1
              have hown2 : wr.drew.ownsRow W.heap.size 84 2 (.slice oa O.length oc) O.length (cellsR O) := hown
              have hle2 : W.heap.size ≤ wr.drew.heap.size := hle
              clear q1 q2 q3 q4
              obtain ⟨q1, q2, q3, q4⟩ := HX.out _ HB2.out
              generalize wr.drew = w2 at HB2 hown2 hle2 q1 q2 q3 q4 ⊢
              go_wp2
              go_quiet (fail)
              go_wp2
              refine ⟨⟨r :: xs, ys, O, _, _, _, _, rfl, rfl, HSX.out, RgAt.tail_lt HSY.out, HM.out, hown2, below_drewN (HB2.out) _⟩, ?_⟩
              simp only [slen_slice]
              omega
            · obtain rfl : cy = 1 := by omega
              have hxs : ys = [] := List.eq_nil_of_length_eq_zero (by omega)
              subst hxs
              rw [show ([] : List Rg).length = 0 from rfl] at * 
              go_wp2
              go_region
              have HB2 : Hid (Below W.heap.size W wr.drew) := below_drewN HB.out 1
              have hown2 : wr.drew.ownsRow W.heap.size 84 2 (.slice oa O.length oc) O.length (cellsR O) := hown
              have hle2 : W.heap.size ≤ wr.drew.heap.size := hle
              clear q1 q2 q3 q4
              obtain ⟨q1, q2, q3, q4⟩ := HX.out _ HB2.out
              generalize wr.drew = w2 at HB2 hown2 hle2 q1 q2 q3 q4 ⊢
              go_wp2
              go_quiet (fail)
              go_wp2
              refine ⟨⟨r :: xs, [], O, _, _, _, _, rfl, rfl, HSX.out, RgAt.empty 0, HM.out, hown2, below_drewN (HB2.out) _⟩, ?_⟩
              simp only [slen_slice]
              omega
end Go.Proofs.Ytkhiogcdamjocaa
