/-
  slices.symMergeCmpFunc at integers, walked (printed by gensym.py).
  slices.stableCmpFunc: blocks in order, in plain Lean.
  slices.stableCmpFunc and slices.SortStableFunc at integers, walked.
-/
import Derived.Test.YtmeilhjloeghhaaKweigh4
namespace Go.Proofs.Ytmeilhjloeghhaa
open Go.RowKit

theorem sym_pos {ks : Nat → Option Int} {L R : List Nat} {a m b md st rr c : Nat} (H : SymLp ks L R a m b md st rr) (h1 : st ≤ c) (h2 : c < rr) : c - a < L.length ∧ md - 1 - c < R.length := by
  have g0 := H.hm; have g00 := H.hb; have g1 := H.h1; have g3 := H.h3; have g4 := H.h4; have g5 := H.h5
  constructor <;> omega
set_option maxRecDepth 100000 in
set_option maxHeartbeats 6400000 in
theorem sym_rest (ks : Nat → Option Int) (blk N cap bx k : Nat) (W0 : World) (hNs : N ≤ 4096) (hC : CmpC ks N bx blk W0)
    (hI : ∀ (P L R S : List Nat) (W : World) (a m b : Nat), L.length + R.length < k → SymIn ks blk N W0 W P L R S a m b → Calls Try.prog 30 #[.slice (some ⟨blk, 0, none⟩) N cap, .int .i64 a, .int .i64 m, .int .i64 b, cmpV bx] W (RetSym ks blk W0 P L R S))
    (P L R S : List Nat) (W : World) (a m b : Nat) (hk : L.length + R.length = k) (h : SymIn ks blk N W0 W P L R S a m b) (h0 : L.length ≠ 1) (h1 : R.length ≠ 1) :
    Calls Try.prog 30 #[.slice (some ⟨blk, 0, none⟩) N cap, .int .i64 a, .int .i64 m, .int .i64 b, cmpV bx] W (RetSym ks blk W0 P L R S) := by
  have H := Lib.hid h
  have HC := Lib.hid hC
  have HI := Lib.hid hI
  have hm' : m = a + L.length := by have := h.hm; have := h.ha; omega
  have hb' : b = m + R.length := by have := h.hm; have := h.hb; omega
  have hbN : b ≤ N := by have := h.hN; have := h.hb; omega
  have hL2 : 2 ≤ L.length := by have := h.hl; omega
  have hR2 : 2 ≤ R.length := by have := h.hr; omega
  have hA : a = P.length := h.ha
  have hNN : N = P.length + L.length + R.length + S.length := h.hN
  have e0 : ((m : Int) - a == 1) = false := by simp; omega
  have e1 : ((b : Int) - m == 1) = false := by simp; omega
  obtain ⟨md, hmd⟩ : ∃ md, md = (a + b) / 2 := ⟨_, rfl⟩
  have e2 : ((a : Int) + b) / 2 = (md : Int) := by omega
  obtain ⟨nn, hnn⟩ : ∃ nn, nn = md + m := ⟨_, rfl⟩
  have e3 : (md : Int) + m = (nn : Int) := by omega
  have hmd1 : md ≤ 4096 := by omega
  have HM := Lib.hid hm'
  have HBB := Lib.hid hb'
  have HMD := Lib.hid hmd
  have HNN := Lib.hid hnn
  have HA := Lib.hid hA
  have HN0 := Lib.hid hNN
  have HK := Lib.hid hk
  have ham : a + 2 ≤ m := by omega
  have hmb : m + 2 ≤ b := by omega
  have hnn1 : nn ≤ 8192 := by omega
  have hnnb : b ≤ nn + nn := by omega
  have hnnm : m < nn := by omega
  unfold cmpV
  clear h hC hI hm' hb' hmd hnn hA hNN hk h0 h1
  go_enter Try.func30, Try.ntmps30
  go_upto_region 27 with fail
  clear e0 e1 e2 e3
  go_upto_if 140 with fail
  go_cut [20, 21] (fun sv rv wx => ∃ st rr : Nat, sv = .int .i64 st ∧ rv = .int .i64 rr ∧ Hid (SymLp ks L R a m b md st rr) ∧ W = wx)
  case first =>
    by_cases hgt : md < m
    · have hgi : (m : Int) > md := by omega
      obtain ⟨st0, hst0⟩ : ∃ st0, st0 = nn - b := ⟨_, rfl⟩
      have e4 : (nn : Int) - b = (st0 : Int) := by have := HNN.out; have := HM.out; have := HBB.out; have := HMD.out; omega
      have HS := Lib.hid (SymLp.start1 (ks := ks) (st := st0) HM.out HBB.out HMD.out hgt (by have := HNN.out; omega))
      clear hst0
      go_wp2_with fail
      go_meet
      exact ⟨st0, md, rfl, rfl, HS, rfl⟩
    · have hgi : ¬ ((m : Int) > md) := by omega
      have HS := Lib.hid (SymLp.start2 (ks := ks) HM.out HBB.out HMD.out hgt)
      go_wp2_with fail
      go_meet
      exact ⟨a, m, rfl, rfl, HS, rfl⟩
  case rest =>
    obtain ⟨st0, rr0, rfl, rfl, HS0, hwc⟩ := hcut
    subst hwc
    obtain ⟨pp, hpp⟩ : ∃ pp, pp = nn - 1 := ⟨_, rfl⟩
    have e5 : (nn : Int) - 1 = (pp : Int) := by omega
    have HPP := Lib.hid hpp
    have hpp1 : pp ≤ 8192 := by omega
    clear hpp
    go_upto_region 33 with fail
    clear e5
    go_loopg [20, 21] (rr0 - st0) (fun f s s2 wr => ∃ st rr : Nat, s = .int .i64 st ∧ s2 = .int .i64 rr ∧ Hid (f = rr - st) ∧ Hid (SymLp ks L R a m b md st rr) ∧ Hid (SymIn ks blk N W0 wr P L R S a m b))
    case atStart => exact ⟨st0, rr0, rfl, rfl, rfl, HS0, H⟩
    case round =>
      obtain ⟨st, rr, rfl, rfl, HF, HS, HW⟩ := hrel
      have g1 := HS.out.h1
      have g2 := HS.out.h2
      have g3 := HS.out.h3
      have g4 := HS.out.h4
      have g5 := HS.out.h5
      by_cases hlt : st < rr
      · have hli : (st : Int) < rr := by omega
        obtain ⟨c, hcd⟩ : ∃ c, c = (st + rr) / 2 := ⟨_, rfl⟩
        have e6 : ((st : Int) + rr) / 2 = (c : Int) := by omega
        have hc1 : st ≤ c := by omega
        have hc2 : c < rr := by omega
        obtain ⟨hi, hj⟩ := sym_pos HS.out hc1 hc2
        obtain ⟨z, hz⟩ : ∃ z, z = m + (md - 1 - c) := ⟨_, rfl⟩
        have e7 : (pp : Int) - c = (z : Int) := by have := HPP.out; have := HNN.out; omega
        have x1 := row_L HW.out.row hi (i := c) (by have := HA.out; omega)
        have x2 := row_R HW.out.row hj (i := z) (by have := HW.out.hm; omega)
        have hyN := HW.out.rn _ (List.getElem_mem hj)
        have hxN := HW.out.ln _ (List.getElem_mem hi)
        have hxy := HW.out.lr _ (List.getElem_mem hi) _ (List.getElem_mem hj)
        have HUP : Hid (ahead ks L[c - a] R[md - 1 - c] → SymLp ks L R a m b md (c + 1) rr) := fun h => HS.out.up HW.out.sl HW.out.sr hc1 hc2 hi hj h
        have HDN : Hid (ahead ks R[md - 1 - c] L[c - a] → SymLp ks L R a m b md st c) := fun h => HS.out.down HW.out.sl HW.out.sr hc1 hc2 hi hj h
        have hzN : (z : Int) < N := by have := HBB.out; omega
        have hcN : (c : Int) < N := by omega
        generalize L[c - a] = x at *
        generalize R[md - 1 - c] = y at *
        have CO := Lib.hid (HC.out.at HW.out.bel hyN hxN)
        have HCL : Hid (cmpK (ks y) (ks x) < 0 ↔ ahead ks y x) := cmp_gt_iff hxy
        have HCN : Hid (¬ cmpK (ks y) (ks x) < 0 → ahead ks x y) := cmp_not hxy
        generalize cmpK (ks y) (ks x) = cc at *
        clear hcd hi hj hz hyN hxN hxy
        go_upto_region 35 with fail
        by_cases hc : cc < 0
        · have HAX := Lib.hid (HCL.out.1 hc)
          go_quiet ((go_at_call 25; exact CO.out _))
          go_wp2
          go_roundg (c - st)
          case measure => have := HF.out; omega
          case rel => exact ⟨st, c, rfl, rfl, rfl, Lib.hid (HDN.out HAX.out), Lib.hid (HW.out.draw _)⟩
        · have HAX := Lib.hid (HCN.out hc)
          go_quiet ((go_at_call 25; exact CO.out _))
          go_wp2
          go_roundg (rr - (c + 1))
          case measure => have := HF.out; omega
          case rel => exact ⟨c + 1, rr, by go_num, rfl, rfl, Lib.hid (HUP.out HAX.out), Lib.hid (HW.out.draw _)⟩
      · have hli : ¬ ((st : Int) < rr) := by omega
        obtain rfl : st = rr := by omega
        obtain ⟨en, hen⟩ : ∃ en, en = nn - st := ⟨_, rfl⟩
        have e8 : (nn : Int) - st = (en : Int) := by have := HNN.out; omega
        obtain ⟨s, hs⟩ : ∃ s, s = st - a := ⟨_, rfl⟩
        obtain ⟨t, ht⟩ : ∃ t, t = md - st := ⟨_, rfl⟩
        have HSA : Hid (∀ x ∈ L.take s, ∀ y ∈ R.drop t, ahead ks x y) := by rw [hs, ht]; exact HS.out.A
        have HSB : Hid (∀ x ∈ R.take t, ∀ y ∈ L.drop s, ahead ks x y) := by rw [hs, ht]; exact HS.out.B
        have hsL : s ≤ L.length := by have := HM.out; omega
        have htR : t ≤ R.length := by have := HBB.out; omega
        have hst : st = a + s := by omega
        have hmt : md = a + s + t := by omega
        have hent : en = m + t := by have := HNN.out; omega
        have hst4 : s + t < k := by have := HK.out; have := HMD.out; have := HM.out; have := HBB.out; omega
        have hst5 : L.length - s + (R.length - t) < k := by have := HK.out; have := HMD.out; have := HM.out; have := HBB.out; omega
        have FIN : Hid (∀ M1 M2 : List Nat, M1.Perm (L.take s ++ R.take t) → M1.Pairwise (ahead ks) → M2.Perm (L.drop s ++ R.drop t) → M2.Pairwise (ahead ks) → (M1 ++ M2).Perm (L ++ R) ∧ (M1 ++ M2).Pairwise (ahead ks)) := fun M1 M2 p1 s1 p2 s2 => sym_merged HW.out.sl HW.out.sr HSA.out HSB.out p1 p2 s1 s2
        have HSL1 : Hid ((L.take s).Pairwise (ahead ks)) := HW.out.sl.sublist (List.take_sublist s L)
        have HSL2 : Hid ((L.drop s).Pairwise (ahead ks)) := HW.out.sl.sublist (List.drop_sublist s L)
        have HSR1 : Hid ((R.take t).Pairwise (ahead ks)) := HW.out.sr.sublist (List.take_sublist t R)
        have HSR2 : Hid ((R.drop t).Pairwise (ahead ks)) := HW.out.sr.sublist (List.drop_sublist t R)
        have LL1 : (L.take s).length = s := by rw [List.length_take]; omega
        have LL2 : (L.drop s).length = L.length - s := List.length_drop
        have LR1 : (R.take t).length = t := by rw [List.length_take]; omega
        have LR2 : (R.drop t).length = R.length - t := List.length_drop
        have X0 : Hid (st < m → st < md → BoxL wr blk (natI ((P ++ L.take s) ++ (L.drop s ++ (R.take t ++ (R.drop t ++ S)))))) := fun _ _ => by rw [← four_split]; exact HW.out.row
        have X1 : Hid (¬ (st < m ∧ st < md) → BoxL wr blk (natI (P ++ (L.take s ++ (R.take t ++ (L.drop s ++ (R.drop t ++ S))))))) := fun hn => by
          rw [← four_same (P := P) (L := L) (R := R) (S := S) (s := s) (t := t)]
          · exact HW.out.row
          · by_cases h1 : st < m
            · exact .inr (List.eq_nil_of_length_eq_zero (by rw [LR1]; omega))
            · exact .inl (List.eq_nil_of_length_eq_zero (by rw [LL2]; have := HM.out; omega))
        have CR : Hid (st < m → st < md → Calls Try.prog 31 #[.slice (some ⟨blk, 0, none⟩) N cap, .int .i64 st, .int .i64 m, .int .i64 en, .func (.func 25) #[] #[.pointer (some ⟨bx, 0, none⟩)]] wr fun e w' => (∃ u, e = .returned u) ∧ BoxL w' blk (natI (P ++ (L.take s ++ (R.take t ++ (L.drop s ++ (R.drop t ++ S)))))) ∧ Below blk W0 w') := fun h1 h2 => by
          have h := rotate_c blk N cap (.func (.func 25) #[] #[.pointer (some ⟨bx, 0, none⟩)]) (P ++ L.take s) (L.drop s) (R.take t) (R.drop t ++ S) W0 wr st m en (by rw [List.length_append, LL1]; have := HA.out; omega) (by rw [List.length_append, LL1, LL2]; have := HA.out; have := HM.out; omega) (by rw [List.length_append, LL1, LL2, LR1]; have := HA.out; have := HM.out; omega) (by rw [LL2]; have := HM.out; omega) (by rw [LR1]; omega) (by rw [List.length_append, List.length_append, LL1, LL2, LR1, LR2]; have := HN0.out; omega) hNs (X0.out h1 h2) HW.out.bel
          rw [List.append_assoc] at h
          exact h
        have S1 : Hid (a < st → st < md → ∀ W, BoxL W blk (natI (P ++ (L.take s ++ (R.take t ++ (L.drop s ++ (R.drop t ++ S)))))) → Below blk W0 W → Calls Try.prog 30 #[.slice (some ⟨blk, 0, none⟩) N cap, .int .i64 a, .int .i64 st, .int .i64 md, .func (.func 25) #[] #[.pointer (some ⟨bx, 0, none⟩)]] W (RetSym ks blk W0 P (L.take s) (R.take t) (L.drop s ++ (R.drop t ++ S)))) := fun h1 h2 W hX hB =>
          HI.out P (L.take s) (R.take t) (L.drop s ++ (R.drop t ++ S)) W a st md (by rw [LL1, LR1]; exact hst4) ⟨HA.out, by rw [LL1]; have := HA.out; omega, by rw [LL1, LR1]; have := HA.out; omega, by rw [LL1]; omega, by rw [LR1]; omega, by rw [List.length_append, List.length_append, LL1, LL2, LR1, LR2]; have := HN0.out; omega, HSL1.out, HSR1.out, fun x hx y hy => HW.out.lr x (List.mem_of_mem_take hx) y (List.mem_of_mem_take hy), fun x hx => HW.out.ln x (List.mem_of_mem_take hx), fun x hx => HW.out.rn x (List.mem_of_mem_take hx), hX, hB⟩
        have S2 : Hid (st < m → en < b → ∀ (M1 : List Nat) W, M1.Perm (L.take s ++ R.take t) → BoxL W blk (natI (P ++ (M1 ++ (L.drop s ++ (R.drop t ++ S))))) → Below blk W0 W → Calls Try.prog 30 #[.slice (some ⟨blk, 0, none⟩) N cap, .int .i64 md, .int .i64 en, .int .i64 b, .func (.func 25) #[] #[.pointer (some ⟨bx, 0, none⟩)]] W (RetSym ks blk W0 (P ++ M1) (L.drop s) (R.drop t) S)) := fun h1 h2 M1 W hp hX hB => by
          have hml : M1.length = s + t := by rw [hp.length_eq, List.length_append, LL1, LR1]
          exact HI.out (P ++ M1) (L.drop s) (R.drop t) S W md en b (by rw [LL2, LR2]; exact hst5) ⟨by rw [List.length_append, hml]; have := HA.out; omega, by rw [List.length_append, hml, LL2]; have := HA.out; have := HM.out; omega, by rw [List.length_append, hml, LL2, LR2]; have := HA.out; have := HM.out; have := HBB.out; omega, by rw [LL2]; have := HM.out; omega, by rw [LR2]; have := HBB.out; omega, by rw [List.length_append, hml, LL2, LR2]; have := HN0.out; omega, HSL2.out, HSR2.out, fun x hx y hy => HW.out.lr x (List.mem_of_mem_drop hx) y (List.mem_of_mem_drop hy), fun x hx => HW.out.ln x (List.mem_of_mem_drop hx), fun x hx => HW.out.rn x (List.mem_of_mem_drop hx), by rw [List.append_assoc]; exact hX, hB⟩
        have E1 : Hid (¬ (a < st ∧ st < md) → (L.take s ++ R.take t).Pairwise (ahead ks)) := fun hn => sorted_part HSL1.out HSR1.out (by
          by_cases h1 : a < st
          · exact .inr (List.eq_nil_of_length_eq_zero (by rw [LR1]; omega))
          · exact .inl (List.eq_nil_of_length_eq_zero (by rw [LL1]; omega)))
        have E2 : Hid (¬ (st < m ∧ en < b) → (L.drop s ++ R.drop t).Pairwise (ahead ks)) := fun hn => sorted_part HSL2.out HSR2.out (by
          by_cases h1 : st < m
          · exact .inr (List.eq_nil_of_length_eq_zero (by rw [LR2]; have := HBB.out; omega))
          · exact .inl (List.eq_nil_of_length_eq_zero (by rw [LL2]; have := HM.out; omega)))
        have BW := Lib.hid HW.out.bel
        have I1 : st < m ∨ ¬ st < m := Decidable.em _
        have I2 : m < en ↔ st < md := by omega
        have I3 : md < en ↔ st < m := by have := HM.out; omega
        have HI2 := Lib.hid I2
        have HI3 := Lib.hid I3
        clear HSA HSB HSL1 HSL2 HSR1 HSR2 LL1 LL2 LR1 LR2 I1 I2 I3 hst hmt hent hs ht hen hst4 hst5 g1 g2 g3 g4 g5 hlt hli HS
        go_upto_region 39 with fail
        clear e8
        by_cases h1 : st < m
        · by_cases h2 : st < md
          · by_cases h3 : a < st
            · by_cases h4 : en < b
              · have q1 : (st : Int) < m := by omega
                have q2 : (m : Int) < en := by have := HI2.out; omega
                have q3 : (a : Int) < st := by omega
                have q4 : (st : Int) < md := by omega
                have q5 : (md : Int) < en := by have := HI3.out; omega
                have q6 : (en : Int) < b := by omega
                go_wp2_with (first | (go_at_call 31; (with_reducible refine (CR.out h1 h2).mono ?_); rintro e V1 ⟨⟨u1, rfl⟩, hx, hb⟩; have Y1 := Lib.hid hx; have D1 := Lib.hid hb; clear hx hb) | (go_at_call 30; (with_reducible refine (S1.out h3 h2 _ Y1.out D1.out).mono ?_); rintro e V2 ⟨⟨u2, rfl⟩, ⟨M1, pp1, ss1, hx⟩, hb⟩; have P1 := Lib.hid pp1; have Q1 := Lib.hid ss1; have Y2 := Lib.hid hx; have D2 := Lib.hid hb; clear pp1 ss1 hx hb) | (go_at_call 30; (with_reducible refine (S2.out h1 h4 M1 _ P1.out Y2.out D2.out).mono ?_); rintro e V3 ⟨⟨u3, rfl⟩, ⟨M2, pp2, ss2, hx⟩, hb⟩; have P2 := Lib.hid pp2; have Q2 := Lib.hid ss2; have Y3 := Lib.hid hx; have D3 := Lib.hid hb; clear pp2 ss2 hx hb))
                go_end0
                exact ⟨⟨_, rfl⟩, ⟨M1 ++ M2, (FIN.out _ _ P1.out Q1.out P2.out Q2.out).1, (FIN.out _ _ P1.out Q1.out P2.out Q2.out).2, (by rw [List.append_assoc, ← List.append_assoc]; exact Y3.out)⟩, D3.out⟩
              · have q1 : (st : Int) < m := by omega
                have q2 : (m : Int) < en := by have := HI2.out; omega
                have q3 : (a : Int) < st := by omega
                have q4 : (st : Int) < md := by omega
                have q5 : (md : Int) < en := by have := HI3.out; omega
                have q6 : ¬ ((en : Int) < b) := by omega
                go_wp2_with (first | (go_at_call 31; (with_reducible refine (CR.out h1 h2).mono ?_); rintro e V1 ⟨⟨u1, rfl⟩, hx, hb⟩; have Y1 := Lib.hid hx; have D1 := Lib.hid hb; clear hx hb) | (go_at_call 30; (with_reducible refine (S1.out h3 h2 _ Y1.out D1.out).mono ?_); rintro e V2 ⟨⟨u2, rfl⟩, ⟨M1, pp1, ss1, hx⟩, hb⟩; have P1 := Lib.hid pp1; have Q1 := Lib.hid ss1; have Y2 := Lib.hid hx; have D2 := Lib.hid hb; clear pp1 ss1 hx hb))
                go_end0
                exact ⟨⟨_, rfl⟩, ⟨M1 ++ (L.drop s ++ R.drop t), (FIN.out _ _ P1.out Q1.out (List.Perm.refl _) (E2.out (by omega))).1, (FIN.out _ _ P1.out Q1.out (List.Perm.refl _) (E2.out (by omega))).2, (by rw [List.append_assoc M1, List.append_assoc (L.drop s)]; exact Y2.out)⟩, D2.out⟩
            · by_cases h4 : en < b
              · have q1 : (st : Int) < m := by omega
                have q2 : (m : Int) < en := by have := HI2.out; omega
                have q3 : ¬ ((a : Int) < st) := by omega
                have q4 : (st : Int) < md := by omega
                have q5 : (md : Int) < en := by have := HI3.out; omega
                have q6 : (en : Int) < b := by omega
                go_wp2_with (first | (go_at_call 31; (with_reducible refine (CR.out h1 h2).mono ?_); rintro e V1 ⟨⟨u1, rfl⟩, hx, hb⟩; have Y1 := Lib.hid hx; have D1 := Lib.hid hb; clear hx hb) | (go_at_call 30; (with_reducible refine (S2.out h1 h4 (L.take s ++ R.take t) _ (List.Perm.refl _) (by rw [List.append_assoc]; exact Y1.out) D1.out).mono ?_); rintro e V3 ⟨⟨u3, rfl⟩, ⟨M2, pp2, ss2, hx⟩, hb⟩; have P2 := Lib.hid pp2; have Q2 := Lib.hid ss2; have Y3 := Lib.hid hx; have D3 := Lib.hid hb; clear pp2 ss2 hx hb))
                go_end0
                exact ⟨⟨_, rfl⟩, ⟨(L.take s ++ R.take t) ++ M2, (FIN.out _ _ (List.Perm.refl _) (E1.out (by omega)) P2.out Q2.out).1, (FIN.out _ _ (List.Perm.refl _) (E1.out (by omega)) P2.out Q2.out).2, (by rw [List.append_assoc, ← List.append_assoc]; exact Y3.out)⟩, D3.out⟩
              · have q1 : (st : Int) < m := by omega
                have q2 : (m : Int) < en := by have := HI2.out; omega
                have q3 : ¬ ((a : Int) < st) := by omega
                have q4 : (st : Int) < md := by omega
                have q5 : (md : Int) < en := by have := HI3.out; omega
                have q6 : ¬ ((en : Int) < b) := by omega
                go_wp2_with (first | (go_at_call 31; (with_reducible refine (CR.out h1 h2).mono ?_); rintro e V1 ⟨⟨u1, rfl⟩, hx, hb⟩; have Y1 := Lib.hid hx; have D1 := Lib.hid hb; clear hx hb))
                go_end0
                exact ⟨⟨_, rfl⟩, ⟨(L.take s ++ R.take t) ++ (L.drop s ++ R.drop t), (FIN.out _ _ (List.Perm.refl _) (E1.out (by omega)) (List.Perm.refl _) (E2.out (by omega))).1, (FIN.out _ _ (List.Perm.refl _) (E1.out (by omega)) (List.Perm.refl _) (E2.out (by omega))).2, (by rw [List.append_assoc (L.take s ++ R.take t), List.append_assoc (L.drop s)]; exact (by rw [List.append_assoc]; exact Y1.out))⟩, D1.out⟩
          · by_cases h3 : a < st
            · by_cases h4 : en < b
              · have q1 : (st : Int) < m := by omega
                have q2 : ¬ ((m : Int) < en) := by have := HI2.out; omega
                have q3 : (a : Int) < st := by omega
                have q4 : ¬ ((st : Int) < md) := by omega
                have q5 : (md : Int) < en := by have := HI3.out; omega
                have q6 : (en : Int) < b := by omega
                have Y1 := Lib.hid (X1.out (by omega))
                go_wp2_with (first | (go_at_call 30; (with_reducible refine (S2.out h1 h4 (L.take s ++ R.take t) _ (List.Perm.refl _) (by rw [List.append_assoc]; exact Y1.out) BW.out).mono ?_); rintro e V3 ⟨⟨u3, rfl⟩, ⟨M2, pp2, ss2, hx⟩, hb⟩; have P2 := Lib.hid pp2; have Q2 := Lib.hid ss2; have Y3 := Lib.hid hx; have D3 := Lib.hid hb; clear pp2 ss2 hx hb))
                go_end0
                exact ⟨⟨_, rfl⟩, ⟨(L.take s ++ R.take t) ++ M2, (FIN.out _ _ (List.Perm.refl _) (E1.out (by omega)) P2.out Q2.out).1, (FIN.out _ _ (List.Perm.refl _) (E1.out (by omega)) P2.out Q2.out).2, (by rw [List.append_assoc, ← List.append_assoc]; exact Y3.out)⟩, D3.out⟩
              · have q1 : (st : Int) < m := by omega
                have q2 : ¬ ((m : Int) < en) := by have := HI2.out; omega
                have q3 : (a : Int) < st := by omega
                have q4 : ¬ ((st : Int) < md) := by omega
                have q5 : (md : Int) < en := by have := HI3.out; omega
                have q6 : ¬ ((en : Int) < b) := by omega
                have Y1 := Lib.hid (X1.out (by omega))
                go_wp2_with fail
                go_end0
                exact ⟨⟨_, rfl⟩, ⟨(L.take s ++ R.take t) ++ (L.drop s ++ R.drop t), (FIN.out _ _ (List.Perm.refl _) (E1.out (by omega)) (List.Perm.refl _) (E2.out (by omega))).1, (FIN.out _ _ (List.Perm.refl _) (E1.out (by omega)) (List.Perm.refl _) (E2.out (by omega))).2, (by rw [List.append_assoc (L.take s ++ R.take t), List.append_assoc (L.drop s)]; exact (by rw [List.append_assoc]; exact Y1.out))⟩, BW.out⟩
            · by_cases h4 : en < b
              · have q1 : (st : Int) < m := by omega
                have q2 : ¬ ((m : Int) < en) := by have := HI2.out; omega
                have q3 : ¬ ((a : Int) < st) := by omega
                have q4 : ¬ ((st : Int) < md) := by omega
                have q5 : (md : Int) < en := by have := HI3.out; omega
                have q6 : (en : Int) < b := by omega
                have Y1 := Lib.hid (X1.out (by omega))
                go_wp2_with (first | (go_at_call 30; (with_reducible refine (S2.out h1 h4 (L.take s ++ R.take t) _ (List.Perm.refl _) (by rw [List.append_assoc]; exact Y1.out) BW.out).mono ?_); rintro e V3 ⟨⟨u3, rfl⟩, ⟨M2, pp2, ss2, hx⟩, hb⟩; have P2 := Lib.hid pp2; have Q2 := Lib.hid ss2; have Y3 := Lib.hid hx; have D3 := Lib.hid hb; clear pp2 ss2 hx hb))
                go_end0
                exact ⟨⟨_, rfl⟩, ⟨(L.take s ++ R.take t) ++ M2, (FIN.out _ _ (List.Perm.refl _) (E1.out (by omega)) P2.out Q2.out).1, (FIN.out _ _ (List.Perm.refl _) (E1.out (by omega)) P2.out Q2.out).2, (by rw [List.append_assoc, ← List.append_assoc]; exact Y3.out)⟩, D3.out⟩
              · have q1 : (st : Int) < m := by omega
                have q2 : ¬ ((m : Int) < en) := by have := HI2.out; omega
                have q3 : ¬ ((a : Int) < st) := by omega
                have q4 : ¬ ((st : Int) < md) := by omega
                have q5 : (md : Int) < en := by have := HI3.out; omega
                have q6 : ¬ ((en : Int) < b) := by omega
                have Y1 := Lib.hid (X1.out (by omega))
                go_wp2_with fail
                go_end0
                exact ⟨⟨_, rfl⟩, ⟨(L.take s ++ R.take t) ++ (L.drop s ++ R.drop t), (FIN.out _ _ (List.Perm.refl _) (E1.out (by omega)) (List.Perm.refl _) (E2.out (by omega))).1, (FIN.out _ _ (List.Perm.refl _) (E1.out (by omega)) (List.Perm.refl _) (E2.out (by omega))).2, (by rw [List.append_assoc (L.take s ++ R.take t), List.append_assoc (L.drop s)]; exact (by rw [List.append_assoc]; exact Y1.out))⟩, BW.out⟩
        · by_cases h2 : st < md
          · by_cases h3 : a < st
            · by_cases h4 : en < b
              · have q1 : ¬ ((st : Int) < m) := by omega
                have q2 : (m : Int) < en := by have := HI2.out; omega
                have q3 : (a : Int) < st := by omega
                have q4 : (st : Int) < md := by omega
                have q5 : ¬ ((md : Int) < en) := by have := HI3.out; omega
                have q6 : (en : Int) < b := by omega
                have Y1 := Lib.hid (X1.out (by omega))
                go_wp2_with (first | (go_at_call 30; (with_reducible refine (S1.out h3 h2 _ Y1.out BW.out).mono ?_); rintro e V2 ⟨⟨u2, rfl⟩, ⟨M1, pp1, ss1, hx⟩, hb⟩; have P1 := Lib.hid pp1; have Q1 := Lib.hid ss1; have Y2 := Lib.hid hx; have D2 := Lib.hid hb; clear pp1 ss1 hx hb))
                go_end0
                exact ⟨⟨_, rfl⟩, ⟨M1 ++ (L.drop s ++ R.drop t), (FIN.out _ _ P1.out Q1.out (List.Perm.refl _) (E2.out (by omega))).1, (FIN.out _ _ P1.out Q1.out (List.Perm.refl _) (E2.out (by omega))).2, (by rw [List.append_assoc M1, List.append_assoc (L.drop s)]; exact Y2.out)⟩, D2.out⟩
              · have q1 : ¬ ((st : Int) < m) := by omega
                have q2 : (m : Int) < en := by have := HI2.out; omega
                have q3 : (a : Int) < st := by omega
                have q4 : (st : Int) < md := by omega
                have q5 : ¬ ((md : Int) < en) := by have := HI3.out; omega
                have q6 : ¬ ((en : Int) < b) := by omega
                have Y1 := Lib.hid (X1.out (by omega))
                go_wp2_with (first | (go_at_call 30; (with_reducible refine (S1.out h3 h2 _ Y1.out BW.out).mono ?_); rintro e V2 ⟨⟨u2, rfl⟩, ⟨M1, pp1, ss1, hx⟩, hb⟩; have P1 := Lib.hid pp1; have Q1 := Lib.hid ss1; have Y2 := Lib.hid hx; have D2 := Lib.hid hb; clear pp1 ss1 hx hb))
                go_end0
                exact ⟨⟨_, rfl⟩, ⟨M1 ++ (L.drop s ++ R.drop t), (FIN.out _ _ P1.out Q1.out (List.Perm.refl _) (E2.out (by omega))).1, (FIN.out _ _ P1.out Q1.out (List.Perm.refl _) (E2.out (by omega))).2, (by rw [List.append_assoc M1, List.append_assoc (L.drop s)]; exact Y2.out)⟩, D2.out⟩
            · by_cases h4 : en < b
              · have q1 : ¬ ((st : Int) < m) := by omega
                have q2 : (m : Int) < en := by have := HI2.out; omega
                have q3 : ¬ ((a : Int) < st) := by omega
                have q4 : (st : Int) < md := by omega
                have q5 : ¬ ((md : Int) < en) := by have := HI3.out; omega
                have q6 : (en : Int) < b := by omega
                have Y1 := Lib.hid (X1.out (by omega))
                go_wp2_with fail
                go_end0
                exact ⟨⟨_, rfl⟩, ⟨(L.take s ++ R.take t) ++ (L.drop s ++ R.drop t), (FIN.out _ _ (List.Perm.refl _) (E1.out (by omega)) (List.Perm.refl _) (E2.out (by omega))).1, (FIN.out _ _ (List.Perm.refl _) (E1.out (by omega)) (List.Perm.refl _) (E2.out (by omega))).2, (by rw [List.append_assoc (L.take s ++ R.take t), List.append_assoc (L.drop s)]; exact (by rw [List.append_assoc]; exact Y1.out))⟩, BW.out⟩
              · have q1 : ¬ ((st : Int) < m) := by omega
                have q2 : (m : Int) < en := by have := HI2.out; omega
                have q3 : ¬ ((a : Int) < st) := by omega
                have q4 : (st : Int) < md := by omega
                have q5 : ¬ ((md : Int) < en) := by have := HI3.out; omega
                have q6 : ¬ ((en : Int) < b) := by omega
                have Y1 := Lib.hid (X1.out (by omega))
                go_wp2_with fail
                go_end0
                exact ⟨⟨_, rfl⟩, ⟨(L.take s ++ R.take t) ++ (L.drop s ++ R.drop t), (FIN.out _ _ (List.Perm.refl _) (E1.out (by omega)) (List.Perm.refl _) (E2.out (by omega))).1, (FIN.out _ _ (List.Perm.refl _) (E1.out (by omega)) (List.Perm.refl _) (E2.out (by omega))).2, (by rw [List.append_assoc (L.take s ++ R.take t), List.append_assoc (L.drop s)]; exact (by rw [List.append_assoc]; exact Y1.out))⟩, BW.out⟩
          · by_cases h3 : a < st
            · by_cases h4 : en < b
              · have q1 : ¬ ((st : Int) < m) := by omega
                have q2 : ¬ ((m : Int) < en) := by have := HI2.out; omega
                have q3 : (a : Int) < st := by omega
                have q4 : ¬ ((st : Int) < md) := by omega
                have q5 : ¬ ((md : Int) < en) := by have := HI3.out; omega
                have q6 : (en : Int) < b := by omega
                have Y1 := Lib.hid (X1.out (by omega))
                go_wp2_with fail
                go_end0
                exact ⟨⟨_, rfl⟩, ⟨(L.take s ++ R.take t) ++ (L.drop s ++ R.drop t), (FIN.out _ _ (List.Perm.refl _) (E1.out (by omega)) (List.Perm.refl _) (E2.out (by omega))).1, (FIN.out _ _ (List.Perm.refl _) (E1.out (by omega)) (List.Perm.refl _) (E2.out (by omega))).2, (by rw [List.append_assoc (L.take s ++ R.take t), List.append_assoc (L.drop s)]; exact (by rw [List.append_assoc]; exact Y1.out))⟩, BW.out⟩
              · have q1 : ¬ ((st : Int) < m) := by omega
                have q2 : ¬ ((m : Int) < en) := by have := HI2.out; omega
                have q3 : (a : Int) < st := by omega
                have q4 : ¬ ((st : Int) < md) := by omega
                have q5 : ¬ ((md : Int) < en) := by have := HI3.out; omega
                have q6 : ¬ ((en : Int) < b) := by omega
                have Y1 := Lib.hid (X1.out (by omega))
                go_wp2_with fail
                go_end0
                exact ⟨⟨_, rfl⟩, ⟨(L.take s ++ R.take t) ++ (L.drop s ++ R.drop t), (FIN.out _ _ (List.Perm.refl _) (E1.out (by omega)) (List.Perm.refl _) (E2.out (by omega))).1, (FIN.out _ _ (List.Perm.refl _) (E1.out (by omega)) (List.Perm.refl _) (E2.out (by omega))).2, (by rw [List.append_assoc (L.take s ++ R.take t), List.append_assoc (L.drop s)]; exact (by rw [List.append_assoc]; exact Y1.out))⟩, BW.out⟩
            · by_cases h4 : en < b
              · have q1 : ¬ ((st : Int) < m) := by omega
                have q2 : ¬ ((m : Int) < en) := by have := HI2.out; omega
                have q3 : ¬ ((a : Int) < st) := by omega
                have q4 : ¬ ((st : Int) < md) := by omega
                have q5 : ¬ ((md : Int) < en) := by have := HI3.out; omega
                have q6 : (en : Int) < b := by omega
                have Y1 := Lib.hid (X1.out (by omega))
                go_wp2_with fail
                go_end0
                exact ⟨⟨_, rfl⟩, ⟨(L.take s ++ R.take t) ++ (L.drop s ++ R.drop t), (FIN.out _ _ (List.Perm.refl _) (E1.out (by omega)) (List.Perm.refl _) (E2.out (by omega))).1, (FIN.out _ _ (List.Perm.refl _) (E1.out (by omega)) (List.Perm.refl _) (E2.out (by omega))).2, (by rw [List.append_assoc (L.take s ++ R.take t), List.append_assoc (L.drop s)]; exact (by rw [List.append_assoc]; exact Y1.out))⟩, BW.out⟩
              · have q1 : ¬ ((st : Int) < m) := by omega
                have q2 : ¬ ((m : Int) < en) := by have := HI2.out; omega
                have q3 : ¬ ((a : Int) < st) := by omega
                have q4 : ¬ ((st : Int) < md) := by omega
                have q5 : ¬ ((md : Int) < en) := by have := HI3.out; omega
                have q6 : ¬ ((en : Int) < b) := by omega
                have Y1 := Lib.hid (X1.out (by omega))
                go_wp2_with fail
                go_end0
                exact ⟨⟨_, rfl⟩, ⟨(L.take s ++ R.take t) ++ (L.drop s ++ R.drop t), (FIN.out _ _ (List.Perm.refl _) (E1.out (by omega)) (List.Perm.refl _) (E2.out (by omega))).1, (FIN.out _ _ (List.Perm.refl _) (E1.out (by omega)) (List.Perm.refl _) (E2.out (by omega))).2, (by rw [List.append_assoc (L.take s ++ R.take t), List.append_assoc (L.drop s)]; exact (by rw [List.append_assoc]; exact Y1.out))⟩, BW.out⟩
theorem sym_all (ks : Nat → Option Int) (blk N cap bx : Nat) (W0 : World) (hNs : N ≤ 4096) (hC : CmpC ks N bx blk W0) : ∀ (k : Nat) (P L R S : List Nat) (W : World) (a m b : Nat), L.length + R.length < k → SymIn ks blk N W0 W P L R S a m b →
    Calls Try.prog 30 #[.slice (some ⟨blk, 0, none⟩) N cap, .int .i64 a, .int .i64 m, .int .i64 b, cmpV bx] W (RetSym ks blk W0 P L R S) := by
  intro k
  induction k with
  | zero => intro P L R S W a m b h; omega
  | succ k ih =>
    intro P L R S W a m b hk h
    by_cases h1 : L.length = 1
    · exact sym_one_l ks blk N cap bx P L R S W0 W a m b hNs hC h h1
    · by_cases h2 : R.length = 1
      · exact sym_one_r ks blk N cap bx P L R S W0 W a m b hNs hC h h1 h2
      · exact sym_rest ks blk N cap bx _ W0 hNs hC (fun P' L' R' S' W' a' m' b' hl => ih P' L' R' S' W' a' m' b' (by omega)) P L R S W a m b rfl h h1 h2
end Go.Proofs.Ytmeilhjloeghhaa
namespace Go.Proofs.Ytmeilhjloeghhaa
open Go.RowKit

/-- from place a on: blocks of bs places each (the last one may be shorter), each in order -/
inductive Blocks (ks : Nat → Option Int) (bs : Nat) : Nat → List Nat → Prop
  | nil (a : Nat) : Blocks ks bs a []
  | cons {a : Nat} (seg rest : List Nat) : (seg.length = bs ∨ (seg.length ≤ bs ∧ rest = [])) → seg.Perm (List.range' a seg.length) → seg.Pairwise (ahead ks) → Blocks ks bs (a + seg.length) rest → Blocks ks bs a (seg ++ rest)
theorem Blocks.first {ks : Nat → Option Int} {bs a : Nat} {l : List Nat} (h : Blocks ks bs a l) (hb : 0 < bs) (hl : bs ≤ l.length) : ∃ s1 rest, l = s1 ++ rest ∧ s1.length = bs ∧ s1.Perm (List.range' a bs) ∧ s1.Pairwise (ahead ks) ∧ Blocks ks bs (a + bs) rest := by
  cases h with
  | nil => simp at hl; omega
  | cons seg rest h1 h2 h3 h4 =>
    rcases h1 with h1 | ⟨h1, rfl⟩
    · exact ⟨seg, rest, rfl, h1, h1 ▸ h2, h3, h1 ▸ h4⟩
    · have e : seg.length = bs := by simp at hl; omega
      exact ⟨seg, [], rfl, e, e ▸ h2, h3, e ▸ h4⟩
theorem Blocks.short {ks : Nat → Option Int} {bs a : Nat} {l : List Nat} (h : Blocks ks bs a l) (hl : l.length ≤ bs) : l.Perm (List.range' a l.length) ∧ l.Pairwise (ahead ks) := by
  cases h with
  | nil => simp
  | cons seg rest h1 h2 h3 h4 =>
    have e : rest = [] := by
      rcases h1 with h1 | ⟨_, h1⟩
      · refine List.eq_nil_of_length_eq_zero ?_
        rw [List.length_append] at hl; omega
      · exact h1
    subst e
    simpa using ⟨h2, h3⟩
theorem Blocks.one {ks : Nat → Option Int} {bs a : Nat} {l : List Nat} (hl : l.length ≤ bs) (hp : l.Perm (List.range' a l.length)) (hs : l.Pairwise (ahead ks)) : Blocks ks bs a l := by
  have h := Blocks.cons (ks := ks) (bs := bs) (a := a) l [] (.inr ⟨hl, rfl⟩) hp hs (.nil _)
  simpa using h
/-- the blocks that are done -/
def PreB (ks : Nat → Option Int) (bs : Nat) (D : List Nat) (k : Nat) : Prop := D.length = k ∧ ∀ tail, Blocks ks bs k tail → Blocks ks bs 0 (D ++ tail)
theorem PreB.nil (ks : Nat → Option Int) (bs : Nat) : PreB ks bs [] 0 := ⟨rfl, fun _ h => h⟩
theorem PreB.next {ks : Nat → Option Int} {bs k : Nat} {D seg : List Nat} (h : PreB ks bs D k) (hl : seg.length = bs) (hp : seg.Perm (List.range' k bs)) (hs : seg.Pairwise (ahead ks)) : PreB ks bs (D ++ seg) (k + bs) := by
  refine ⟨by rw [List.length_append, h.1, hl], fun tail ht => ?_⟩
  rw [List.append_assoc]
  exact h.2 _ (.cons seg tail (.inl hl) (hl ▸ hp) hs (hl ▸ ht))
theorem range_split (a n k : Nat) (h : k ≤ n) : List.range' a n = List.range' a k ++ List.range' (a + k) (n - k) := by
  have := List.range'_append (s := a) (m := k) (n := n - k) (step := 1)
  rw [Nat.one_mul] at this
  rw [this]
  congr 1
  omega
theorem range_lt (a n : Nat) : (List.range' a n).Pairwise (· < ·) := List.pairwise_lt_range'
/-- two neighbouring blocks -/
theorem sym_in {ks : Nat → Option Int} {blk N a m b k1 k2 : Nat} {W0 W : World} {D s1 s2 S : List Nat} (hD : D.length = a) (h1 : s1.length = k1) (h2 : s2.length = k2) (p1 : s1.Perm (List.range' a k1)) (p2 : s2.Perm (List.range' (a + k1) k2))
    (o1 : s1.Pairwise (ahead ks)) (o2 : s2.Pairwise (ahead ks)) (hm : m = a + k1) (hb : b = m + k2) (g1 : 0 < k1) (g2 : 0 < k2) (hN : N = b + S.length) (row : BoxL W blk (natI (D ++ (s1 ++ (s2 ++ S))))) (bel : Below blk W0 W) : SymIn ks blk N W0 W D s1 s2 S a m b := by
  have m1 : ∀ x ∈ s1, a ≤ x ∧ x < a + k1 := fun x hx => by have h := p1.mem_iff.1 hx; rw [List.mem_range'_1] at h; omega
  have m2 : ∀ x ∈ s2, a + k1 ≤ x ∧ x < a + k1 + k2 := fun x hx => by have h := p2.mem_iff.1 hx; rw [List.mem_range'_1] at h; omega
  refine ⟨hD.symm, by omega, by omega, by omega, by omega, by omega, o1, o2, fun x hx y hy => ?_, fun x hx => ?_, fun x hx => ?_, row, bel⟩
  · have := m1 x hx; have := m2 y hy; omega
  · have := m1 x hx; omega
  · have := m2 x hx; omega
theorem two_blocks {a k1 k2 : Nat} {s1 s2 M : List Nat} (p1 : s1.Perm (List.range' a k1)) (p2 : s2.Perm (List.range' (a + k1) k2)) (hM : M.Perm (s1 ++ s2)) : M.Perm (List.range' a (k1 + k2)) ∧ M.length = k1 + k2 := by
  have h : M.Perm (List.range' a (k1 + k2)) := by
    rw [range_split a (k1 + k2) k1 (by omega), show k1 + k2 - k1 = k2 by omega]
    exact hM.trans (p1.append p2)
  exact ⟨h, by rw [h.length_eq, List.length_range']⟩
end Go.Proofs.Ytmeilhjloeghhaa
namespace Go.Proofs.Ytmeilhjloeghhaa
open Go.RowKit

/-- the places of n elements in their order -/
def RetSt (ks : Nat → Option Int) (blk n : Nat) (W0 : World) (e : Ending) (w' : World) : Prop := (∃ u, e = .returned u) ∧ (∃ M : List Nat, M.Perm (List.range' 0 n) ∧ M.Pairwise (ahead ks) ∧ BoxL w' blk (natI M)) ∧ Below blk W0 w'
set_option maxRecDepth 100000 in
set_option maxHeartbeats 6400000 in
theorem stable_c (ks : Nat → Option Int) (blk n cap bx : Nat) (W0 W : World) (hn : n ≤ 4096) (hC : CmpC ks n bx blk W0) (h : BoxL W blk (natI (List.range' 0 n))) (hB : Below blk W0 W) :
    Calls Try.prog 27 #[.slice (some ⟨blk, 0, none⟩) n cap, .int .i64 n, cmpV bx] W (RetSt ks blk n W0) := by
  have HH := Lib.hid h
  have HB := Lib.hid hB
  have CI : Hid (∀ (P M S : List Nat) (W : World) (a b : Nat), a = P.length → b = P.length + M.length → n = P.length + M.length + S.length → M.Pairwise (· < ·) → (∀ x ∈ M, x < n) → BoxL W blk (natI (P ++ (M ++ S))) → Below blk W0 W →
    Calls Try.prog 29 #[.slice (some ⟨blk, 0, none⟩) n cap, .int .i64 a, .int .i64 b, .func (.func 25) #[] #[.pointer (some ⟨bx, 0, none⟩)]] W fun e w' => (∃ u, e = .returned u) ∧ (∃ M' : List Nat, M'.Perm M ∧ M'.Pairwise (ahead ks) ∧ BoxL w' blk (natI (P ++ (M' ++ S)))) ∧ Below blk W0 w') :=
    fun P M S W a b h1 h2 h3 h4 h5 h6 h7 => insertion_c ks blk n cap bx P M S W0 W a b h1 h2 h3 hn h4 h5 hC h6 h7
  have CS : Hid (∀ (P L R S : List Nat) (W : World) (a m b : Nat), SymIn ks blk n W0 W P L R S a m b →
    Calls Try.prog 30 #[.slice (some ⟨blk, 0, none⟩) n cap, .int .i64 a, .int .i64 m, .int .i64 b, .func (.func 25) #[] #[.pointer (some ⟨bx, 0, none⟩)]] W (RetSym ks blk W0 P L R S)) :=
    fun P L R S W a m b hs => sym_all ks blk n cap bx W0 hn hC _ P L R S W a m b (Nat.lt_succ_self _) hs
  unfold cmpV
  clear h hB hC
  go_enter Try.func27, Try.ntmps27
  go_upto_region 2 with fail
  go_loopg [7, 8] n (fun f sa sb wr => ∃ (a b : Nat), sa = .int .i64 a ∧ sb = .int .i64 b ∧ b = a + 20 ∧ a ≤ n ∧ Hid (f = n - a) ∧ Hid (∃ D, PreB ks 20 D a ∧ BoxL wr blk (natI (D ++ List.range' a (n - a)))) ∧ Hid (Below blk W0 wr))
  case atStart => exact ⟨0, 20, rfl, rfl, rfl, by omega, rfl, ⟨[], PreB.nil ks 20, HH.out⟩, HB⟩
  case round =>
    obtain ⟨a, b, rfl, rfl, hab, han, HN, HD, HW⟩ := hrel
    obtain ⟨D, hD, hrow⟩ := HD.out
    by_cases hle : b ≤ n
    · have hli : (b : Int) ≤ n := by omega
      have CR : Hid (Calls Try.prog 29 #[.slice (some ⟨blk, 0, none⟩) n cap, .int .i64 a, .int .i64 b, .func (.func 25) #[] #[.pointer (some ⟨bx, 0, none⟩)]] wr fun e w' => (∃ u, e = .returned u) ∧ (∃ D, PreB ks 20 D (a + 20) ∧ BoxL w' blk (natI (D ++ List.range' (a + 20) (n - (a + 20))))) ∧ Below blk W0 w') := by
        have e := range_split a (n - a) 20 (by omega)
        rw [e] at hrow
        refine (CI.out D (List.range' a 20) (List.range' (a + 20) (n - a - 20)) wr a b hD.1.symm (by rw [hD.1, List.length_range']; exact hab) (by rw [hD.1, List.length_range', List.length_range']; omega) (range_lt _ _) (fun x hx => by rw [List.mem_range'_1] at hx; omega) hrow HW.out).mono ?_
        rintro e w' ⟨hu, ⟨M, hp, hs, hx⟩, hb⟩
        refine ⟨hu, ⟨D ++ M, hD.next (by rw [hp.length_eq, List.length_range']) hp hs, ?_⟩, hb⟩
        rw [List.append_assoc, show n - (a + 20) = n - a - 20 by omega]; exact hx
      have HAB := Lib.hid hab
      clear hD hrow hab HD
      go_wp2_with (first | (go_at_call 29; (with_reducible refine CR.out.mono ?_); rintro e V ⟨⟨u, rfl⟩, hd, hb⟩; have D2 := Lib.hid hd; have B2 := Lib.hid hb; clear hd hb))
      go_roundg (n - b)
      case measure => have := HN.out; have := HAB.out; omega
      case rel =>
        have hab := HAB.out
        subst hab
        exact ⟨a + 20, a + 20 + 20, by rfl, by go_num, rfl, by omega, rfl, D2, B2⟩
    · have hli : ¬ ((b : Int) ≤ n) := by omega
      have CR : Hid (Calls Try.prog 29 #[.slice (some ⟨blk, 0, none⟩) n cap, .int .i64 a, .int .i64 n, .func (.func 25) #[] #[.pointer (some ⟨bx, 0, none⟩)]] wr fun e w' => (∃ u, e = .returned u) ∧ (∃ d, d.length = n ∧ Blocks ks 20 0 d ∧ BoxL w' blk (natI d)) ∧ Below blk W0 w') := by
        refine (CI.out D (List.range' a (n - a)) [] wr a n hD.1.symm (by rw [hD.1, List.length_range']; omega) (by rw [hD.1, List.length_range']; simp; omega) (range_lt _ _) (fun x hx => by rw [List.mem_range'_1] at hx; omega) (by simpa using hrow) HW.out).mono ?_
        rintro e w' ⟨hu, ⟨M, hp, hs, hx⟩, hb⟩
        have hl : M.length = n - a := by rw [hp.length_eq, List.length_range']
        exact ⟨hu, ⟨D ++ M, by rw [List.length_append, hD.1, hl]; omega, hD.2 _ (.one (by omega) (by rw [hl]; exact hp) hs), by simpa using hx⟩, hb⟩
      clear hD hrow hab HD
      go_upto_region 7 with (first | (go_at_call 29; (with_reducible refine CR.out.mono ?_); rintro e V ⟨⟨u, rfl⟩, hd, hb⟩; have D2 := Lib.hid hd; have B2 := Lib.hid hb; clear hd hb))
      clear CR
      go_loopg [6, 7, 8, 9] (n - 20) (fun f s6 s7 s8 s9 wr => ∃ bs : Nat, s6 = .int .i64 bs ∧ 20 ≤ bs ∧ bs ≤ 8192 ∧ Hid (f = n - bs) ∧ Hid (∃ d, d.length = n ∧ Blocks ks bs 0 d ∧ BoxL wr blk (natI d)) ∧ Hid (Below blk W0 wr))
      case atStart => exact ⟨20, rfl, by omega, by omega, rfl, D2, B2⟩
      case round =>
        obtain ⟨bs, rfl, hb20, hb81, HN2, HD2, HW2⟩ := hrel
        by_cases hlt : bs < n
        · have hl2 : (bs : Int) < n := by omega
          obtain ⟨b2, hb2⟩ : ∃ b2, b2 = 2 * bs := ⟨_, rfl⟩
          have e2 : 2 * (bs : Int) = (b2 : Int) := by omega
          have hb2n : b2 ≤ 8192 := by omega
          have HB2E := Lib.hid hb2
          obtain ⟨wo, rfl⟩ : ∃ wo, wo = wr := ⟨_, rfl⟩
          have HST : Hid (∃ D rest, PreB ks b2 D 0 ∧ Blocks ks bs 0 rest ∧ rest.length = n - 0 ∧ BoxL wo blk (natI (D ++ rest))) := by
            obtain ⟨d, g1, g2, g3⟩ := HD2.out
            exact ⟨[], d, PreB.nil ks b2, g2, by omega, g3⟩
          clear hb2
          go_upto_region 9 with fail
          go_loopg [7, 8] n (fun f sa sb wr => ∃ (a b : Nat), sa = .int .i64 a ∧ sb = .int .i64 b ∧ a ≤ n ∧ Hid (b = a + b2) ∧ Hid (f = n - a) ∧ Hid (∃ D rest, PreB ks b2 D a ∧ Blocks ks bs a rest ∧ rest.length = n - a ∧ BoxL wr blk (natI (D ++ rest))) ∧ Hid (Below blk W0 wr))
          case atStart => exact ⟨0, b2, rfl, rfl, by omega, Lib.hid (by omega), rfl, HST, HW2⟩
          case round =>
            obtain ⟨a, b, rfl, rfl, han, HAB, HN3, HD3, HW3⟩ := hrel
            obtain ⟨m, hm⟩ : ∃ m, m = a + bs := ⟨_, rfl⟩
            have e3 : (a : Int) + bs = (m : Int) := by omega
            obtain ⟨D, rest, hD, hR, hRl, hrow⟩ := HD3.out
            have hb2e : b2 = bs + bs := by have := HB2E.out; omega
            have hm4 : m ≤ 16384 := by omega
            by_cases hle2 : b ≤ n
            · have hli2 : (b : Int) ≤ n := by omega
              have CR : Hid (Calls Try.prog 30 #[.slice (some ⟨blk, 0, none⟩) n cap, .int .i64 a, .int .i64 m, .int .i64 b, .func (.func 25) #[] #[.pointer (some ⟨bx, 0, none⟩)]] wr fun e w' => (∃ u, e = .returned u) ∧ (∃ D rest, PreB ks b2 D b ∧ Blocks ks bs b rest ∧ rest.length = n - b ∧ BoxL w' blk (natI (D ++ rest))) ∧ Below blk W0 w') := by
                have hbe := HAB.out
                obtain ⟨s1, r1, rfl, l1, p1, o1, k1⟩ := hR.first (by omega) (by omega)
                rw [List.length_append, l1] at hRl
                obtain ⟨s2, r2, rfl, l2, p2, o2, k2⟩ := k1.first (by omega) (by omega)
                rw [List.length_append, l2] at hRl
                refine (CS.out D s1 s2 r2 wr a m b (sym_in hD.1 l1 l2 p1 p2 o1 o2 hm (by omega) (by omega) (by omega) (by omega) hrow HW3.out)).mono ?_
                rintro e w' ⟨hu, ⟨M, hp, hs, hx⟩, hbw⟩
                obtain ⟨q1, q2⟩ := two_blocks p1 p2 hp
                rw [← hb2e] at q1 q2
                refine ⟨hu, ⟨D ++ M, r2, ?_, ?_, by omega, by rw [List.append_assoc]; exact hx⟩, hbw⟩
                · rw [hbe]; exact hD.next q2 q1 hs
                · rw [show b = a + bs + bs by omega]; exact k2
              clear hD hR hRl hrow HD3 hm hb2e
              go_wp2_with (first | (go_at_call 30; (with_reducible refine CR.out.mono ?_); rintro e V2 ⟨⟨u2, rfl⟩, hd, hb⟩; have D4 := Lib.hid hd; have B4 := Lib.hid hb; clear hd hb))
              go_roundg (n - b)
              case measure => have := HN3.out; have := HAB.out; have := HB2E.out; omega
              case rel => exact ⟨b, b + b2, rfl, by go_num, hle2, rfl, rfl, D4, B4⟩
            · have hli2 : ¬ ((b : Int) ≤ n) := by omega
              have hb3 : b2 ≤ 8192 := by omega
              by_cases hmn : m < n
              · have hmi : (m : Int) < n := by omega
                have CR : Hid (Calls Try.prog 30 #[.slice (some ⟨blk, 0, none⟩) n cap, .int .i64 a, .int .i64 m, .int .i64 n, .func (.func 25) #[] #[.pointer (some ⟨bx, 0, none⟩)]] wr fun e w' => (∃ u, e = .returned u) ∧ (∃ d, d.length = n ∧ Blocks ks b2 0 d ∧ BoxL w' blk (natI d)) ∧ Below blk W0 w') := by
                  have hbe := HAB.out
                  obtain ⟨s1, r1, rfl, l1, p1, o1, k1⟩ := hR.first (by omega) (by omega)
                  rw [List.length_append, l1] at hRl
                  obtain ⟨p2, o2⟩ := k1.short (by omega)
                  refine (CS.out D s1 r1 [] wr a m n (sym_in hD.1 l1 rfl p1 p2 o1 o2 hm (by omega) (by omega) (by omega) (by simp) (by rw [List.append_nil]; exact hrow) HW3.out)).mono ?_
                  rintro e w' ⟨hu, ⟨M, hp, hs, hx⟩, hbw⟩
                  obtain ⟨q1, q2⟩ := two_blocks p1 p2 hp
                  exact ⟨hu, ⟨D ++ M, by rw [List.length_append, hD.1, q2]; omega, hD.2 _ (.one (by omega) (by rw [q2]; exact q1) hs), by rw [List.append_nil] at hx; exact hx⟩, hbw⟩
                clear hD hR hRl hrow HD3 hm hb2e
                go_wp2_with (first | (go_at_call 30; (with_reducible refine CR.out.mono ?_); rintro e V2 ⟨⟨u2, rfl⟩, hd, hb⟩; have D4 := Lib.hid hd; have B4 := Lib.hid hb; clear hd hb))
                go_roundg (n - b2)
                case measure => have := HN2.out; have := HB2E.out; omega
                case rel => exact ⟨b2, by have := HB2E.out; first | rfl | go_num, by have := HB2E.out; omega, hb3, rfl, D4, B4⟩
              · have hmi : ¬ ((m : Int) < n) := by omega
                have HE : Hid (∃ d, d.length = n ∧ Blocks ks b2 0 d ∧ BoxL wr blk (natI d)) := by
                  obtain ⟨p2, o2⟩ := hR.short (by omega)
                  exact ⟨D ++ rest, by rw [List.length_append, hD.1]; omega, hD.2 _ (.one (by omega) p2 o2), hrow⟩
                clear hD hR hRl hrow HD3 hm hb2e
                go_wp2
                go_roundg (n - b2)
                case measure => have := HN2.out; have := HB2E.out; omega
                case rel => exact ⟨b2, by have := HB2E.out; first | rfl | go_num, by have := HB2E.out; omega, hb3, rfl, HE, HW3⟩
        · have hl2 : ¬ ((bs : Int) < n) := by omega
          have HE : Hid (∃ M : List Nat, M.Perm (List.range' 0 n) ∧ M.Pairwise (ahead ks) ∧ BoxL wr blk (natI M)) := by
            obtain ⟨d, g1, g2, g3⟩ := HD2.out
            obtain ⟨p2, o2⟩ := g2.short (by omega)
            exact ⟨d, g1 ▸ p2, o2, g3⟩
          go_wp2
          go_end0
          exact ⟨⟨_, rfl⟩, HE.out, HW2.out⟩
set_option maxRecDepth 100000 in
theorem sortStable_c (ks : Nat → Option Int) (blk n cap bx : Nat) (W0 W : World) (hn : n ≤ 4096) (hC : CmpC ks n bx blk W0) (h : BoxL W blk (natI (List.range' 0 n))) (hB : Below blk W0 W) :
    Calls Try.prog 24 #[.slice (some ⟨blk, 0, none⟩) n cap, cmpV bx] W (RetSt ks blk n W0) := by
  have CS := Lib.hid (stable_c ks blk n cap bx W0 W hn hC h hB)
  unfold cmpV at *
  clear h hB hC
  go_enter Try.func24, Try.ntmps24
  go_wp2_with (first | (go_at_call 27; (with_reducible refine CS.out.mono ?_); rintro e V ⟨⟨u, rfl⟩, hd, hb⟩; have D2 := Lib.hid hd; have B2 := Lib.hid hb; clear hd hb))
  go_end0
  exact ⟨⟨_, rfl⟩, D2.out, B2.out⟩
end Go.Proofs.Ytmeilhjloeghhaa
