/-
  slices.symMergeCmpFunc at integers, walked: one element ahead, or behind.
  slices.symMergeCmpFunc at integers, walked: one element behind.
  slices.symMergeCmpFunc at integers: where to part two neighbours, in plain Lean.
-/
import Derived.Test.YtmeilhjloeghhaaKweigh3
namespace Go.Proofs.Ytmeilhjloeghhaa
open Go.RowKit

/-- what merging two neighbours hands back -/
def RetSym (ks : Nat → Option Int) (blk : Nat) (W0 : World) (P L R S : List Nat) (e : Ending) (w' : World) : Prop := (∃ u, e = .returned u) ∧ (∃ M : List Nat, M.Perm (L ++ R) ∧ M.Pairwise (ahead ks) ∧ BoxL w' blk (natI (P ++ (M ++ S)))) ∧ Below blk W0 w'
/-- what it is told of -/
structure SymIn (ks : Nat → Option Int) (blk N : Nat) (W0 W : World) (P L R S : List Nat) (a m b : Nat) : Prop where
  ha : a = P.length
  hm : m = P.length + L.length
  hb : b = P.length + L.length + R.length
  hl : 0 < L.length
  hr : 0 < R.length
  hN : N = P.length + L.length + R.length + S.length
  sl : L.Pairwise (ahead ks)
  sr : R.Pairwise (ahead ks)
  lr : ∀ x ∈ L, ∀ y ∈ R, x < y
  ln : ∀ x ∈ L, x < N
  rn : ∀ x ∈ R, x < N
  row : BoxL W blk (natI (P ++ (L ++ (R ++ S))))
  bel : Below blk W0 W
theorem cmp_gt_iff {ks : Nat → Option Int} {l r : Nat} (h : l < r) : cmpK (ks r) (ks l) < 0 ↔ ahead ks r l := (less_cmp _ _).trans (ahead_gt h).symm
theorem cmp_not {ks : Nat → Option Int} {l r : Nat} (h : l < r) (hn : ¬ cmpK (ks r) (ks l) < 0) : ahead ks l r := ahead_le h (by
  cases hh : lessK (ks r) (ks l) with
  | false => rfl
  | true => exact absurd ((less_cmp _ _).2 hh) hn)
theorem row_L {w : World} {blk i q : Nat} {P L R S : List Nat} (h : BoxL w blk (natI (P ++ (L ++ (R ++ S))))) (hq : q < L.length) (hi : i = P.length + q) : w.cell? ⟨blk, i, none⟩ = some (.int .i64 (L[q] : Int)) :=
  (h.get i (natI_at (A := P ++ L.take q) (B := L.drop (q + 1) ++ (R ++ S)) (x := L[q]) (by
    have e : L ++ (R ++ S) = L.take q ++ L[q] :: (L.drop (q + 1) ++ (R ++ S)) := by
      rw [← List.cons_append, ← List.drop_eq_getElem_cons hq, ← List.append_assoc (L.take q), List.take_append_drop]
    rw [List.append_assoc, ← e]) (by rw [List.length_append, List.length_take]; omega))).1
theorem row_R {w : World} {blk i q : Nat} {P L R S : List Nat} (h : BoxL w blk (natI (P ++ (L ++ (R ++ S))))) (hq : q < R.length) (hi : i = P.length + L.length + q) : w.cell? ⟨blk, i, none⟩ = some (.int .i64 (R[q] : Int)) :=
  row_L (P := P ++ L) (L := R) (R := []) (S := S) (by rw [List.append_assoc, List.nil_append]; exact h) hq (by rw [List.length_append]; exact hi)
theorem SymIn.draw {ks : Nat → Option Int} {blk N : Nat} {W0 W : World} {P L R S : List Nat} {a m b : Nat} (h : SymIn ks blk N W0 W P L R S a m b) (n : Nat) : SymIn ks blk N W0 (W.drewN n) P L R S a m b :=
  ⟨h.ha, h.hm, h.hb, h.hl, h.hr, h.hN, h.sl, h.sr, h.lr, h.ln, h.rn, row_drewN h.row n, below_drewN h.bel n⟩
set_option maxRecDepth 100000 in
set_option maxHeartbeats 3200000 in
theorem sym_one_l (ks : Nat → Option Int) (blk N cap bx : Nat) (P L R S : List Nat) (W0 W : World) (a m b : Nat) (hNs : N ≤ 4096) (hC : CmpC ks N bx blk W0) (h : SymIn ks blk N W0 W P L R S a m b) (h1 : L.length = 1) :
    Calls Try.prog 30 #[.slice (some ⟨blk, 0, none⟩) N cap, .int .i64 a, .int .i64 m, .int .i64 b, cmpV bx] W (RetSym ks blk W0 P L R S) := by
  obtain ⟨x, rfl⟩ := List.length_eq_one_iff.1 h1
  have H := Lib.hid h
  have HC := Lib.hid hC
  have hma : m = a + 1 := by have := h.hm; have := h.ha; simp at *; omega
  have hmb : m < b := by have := h.hm; have := h.hb; have := h.hr; omega
  have hbN : b ≤ N := by have := h.hN; have := h.hb; omega
  have HLb : Hid (b = m + R.length) := by have := h.hm; have := h.hb; show _ = _; omega
  have e1 : (m : Int) - a = 1 := by omega
  have hxN : x < N := h.ln x (by simp)
  have HMA := Lib.hid hma
  have HA := Lib.hid h.ha
  unfold cmpV
  clear h hC hma
  go_enter Try.func30, Try.ntmps30
  go_upto_region 3 with fail
  clear e1
  go_loopg [10, 11] R.length (fun f s s2 wr => ∃ i j : Nat, s = .int .i64 i ∧ s2 = .int .i64 j ∧ m ≤ i ∧ i ≤ j ∧ j ≤ b ∧ Hid (f = j - i) ∧ Hid (∀ y ∈ R.take (i - m), ahead ks y x) ∧ Hid (∀ y ∈ R.drop (j - m), ahead ks x y) ∧ Hid (SymIn ks blk N W0 wr P [x] R S a m b))
  case atStart => exact ⟨m, b, rfl, rfl, by omega, by omega, by omega, Lib.hid (by have := HLb.out; omega), Lib.hid (by simp), Lib.hid (fun y hy => by rw [List.drop_of_length_le (by have := HLb.out; omega)] at hy; cases hy), H⟩
  case round =>
    obtain ⟨i, j, rfl, rfl, hmi, hij, hjb, HN, HT, HD, HW⟩ := hrel
    by_cases hlt : i < j
    · have hli : (i : Int) < j := by omega
      obtain ⟨hh, hhd⟩ : ∃ hh, hh = (i + j) / 2 := ⟨_, rfl⟩
      have e2 : ((i : Int) + j) / 2 = (hh : Int) := by omega
      have hi1 : i ≤ hh := by omega
      have hi2 : hh < j := by omega
      have hq : hh - m < R.length := by have := HLb.out; omega
      have c1 := row_R HW.out.row hq (i := hh) (by have := HW.out.hm; omega)
      have c2 := row_L HW.out.row (q := 0) (by simp) (i := a) (by have := HA.out; omega)
      have hyN := HW.out.rn _ (List.getElem_mem hq)
      have hxy := HW.out.lr x (by simp) _ (List.getElem_mem hq)
      have HTK : Hid (∀ z ∈ R.take (hh - m + 1), z = R[hh - m] ∨ ahead ks z R[hh - m]) := fun z hz => take_le HW.out.sr hq hz
      have HDK : Hid (∀ z ∈ R.drop (hh - m), z = R[hh - m] ∨ ahead ks R[hh - m] z) := fun z hz => drop_ge HW.out.sr hq hz
      simp only [List.getElem_cons_zero] at c2
      generalize R[hh - m] = y at *
      have CO := Lib.hid (HC.out.at HW.out.bel hyN hxN)
      have HCL : Hid (cmpK (ks y) (ks x) < 0 ↔ ahead ks y x) := cmp_gt_iff hxy
      have HCN : Hid (¬ cmpK (ks y) (ks x) < 0 → ahead ks x y) := cmp_not hxy
      generalize cmpK (ks y) (ks x) = c at *
      have hhN : (hh : Int) < N := by omega
      have haN : (a : Int) < N := by have := HMA.out; omega
      clear hhd hq hyN hxy
      go_upto_region 5 with fail
      by_cases hc : c < 0
      · have HAX := Lib.hid (HCL.out.1 hc)
        go_quiet ((go_at_call 25; exact CO.out _))
        go_wp2
        go_roundg (j - (hh + 1))
        case measure => have := HN.out; omega
        case rel => exact ⟨hh + 1, j, by go_num, rfl, by omega, by omega, hjb, rfl, Lib.hid (fun z hz => by rw [show hh + 1 - m = hh - m + 1 by omega] at hz; rcases HTK.out z hz with rfl | h; exact HAX.out; exact ahead_trans h HAX.out), HD, Lib.hid (HW.out.draw _)⟩
      · have HAX := Lib.hid (HCN.out hc)
        go_quiet ((go_at_call 25; exact CO.out _))
        go_wp2
        go_roundg (hh - i)
        case measure => have := HN.out; omega
        case rel => exact ⟨i, hh, rfl, rfl, hmi, hi1, by omega, rfl, HT, Lib.hid (fun z hz => by rcases HDK.out z hz with rfl | h; exact HAX.out; exact ahead_trans HAX.out h), Lib.hid (HW.out.draw _)⟩
    · have hli : ¬ ((i : Int) < j) := by omega
      obtain rfl : i = j := by omega
      obtain ⟨s, hs⟩ : ∃ s, s = i - m := ⟨_, rfl⟩
      have e3 : (i : Int) - 1 = ((a + s : Nat) : Int) := by have := HMA.out; omega
      have hsR : s ≤ R.length := by have := HLb.out; omega
      rw [← hs] at HT HD
      have HX0 : Hid (BoxL wr blk (natI (P ++ (R.take 0 ++ x :: (R.drop 0 ++ S))))) := by have := HW.out.row; show BoxL _ _ _; simpa using this
      have haN : a + s < N := by have := HMA.out; omega
      clear hs
      obtain ⟨z, hz⟩ : ∃ z, z = a + s := ⟨_, rfl⟩
      rw [← hz] at e3
      have HZ := Lib.hid hz
      clear hz
      obtain ⟨wo, rfl⟩ : ∃ wo, wo = wr := ⟨_, rfl⟩
      go_upto_region 9 with fail
      go_loopg [13] s (fun f k wr => ∃ t k' : Nat, k = .int .i64 k' ∧ t ≤ s ∧ Hid (k' = a + t) ∧ Hid (f = s - t) ∧ Hid (BoxL wr blk (natI (P ++ (R.take t ++ x :: (R.drop t ++ S))))) ∧ Hid (Below blk W0 wr))
      case atStart => exact ⟨0, a, rfl, by omega, rfl, rfl, HX0, HW.out.bel⟩
      case round =>
        obtain ⟨t, k, rfl, hts, HK, HN, HBX, HBW⟩ := hrel
        by_cases hlt2 : t < s
        · have hkz : (k : Int) < z := by have := HK.out; have := HZ.out; omega
          have htR : t < R.length := by omega
          have hsp := ins_next (P := P) (M := R) (R := S) (x := x) htR
          have hPA : k = (P ++ R.take t).length := by have := HA.out; have := HK.out; rw [List.length_append, List.length_take]; omega
          have hPB : k + 1 = (P ++ R.take t).length + 1 + ([] : List Nat).length := by rw [← hPA]; simp
          obtain ⟨c1, f1⟩ := HBX.out.get k (natI_at hsp hPA)
          obtain ⟨c2, f2⟩ := HBX.out.get (k + 1) (natI_at2 hsp hPB)
          have HNX := Lib.hid (ins_split (P := P) (M := R) (R := S) (x := x) htR)
          have HSP := Lib.hid hsp
          have HPA := Lib.hid hPA
          have HPB := Lib.hid hPB
          clear hsp hPA hPB
          generalize R[t] = y at *
          have hz : (wr.setCell ⟨blk, k, none⟩ (.int .i64 y)).cell? ⟨blk, k + 1, none⟩ = some (.int .i64 y) := by
            rw [World.cell?_setCell_other _ _ _ _ (fun he => by injection he; omega)]; exact c2
          have HNW : Hid (∀ W, W = ((wr.setCell ⟨blk, k, none⟩ (.int .i64 y)).setCell ⟨blk, k + 1, none⟩ (.int .i64 x)).drew → BoxL W blk (natI (P ++ (R.take (t + 1) ++ x :: (R.drop (t + 1) ++ S)))) ∧ Below blk W0 W) := fun W hW => by
            subst hW
            rw [HNX.out]
            exact ⟨row_swap HBX.out HSP.out HPA.out HPB.out, (below_two HBW.out (Nat.le_refl _) _ _).drew⟩
          have hkN : (k : Int) < N := by have := HZ.out; omega
          have hkN2 : (k : Int) + 1 < N := by have := HZ.out; omega
          have hkt : ((k : Int) + 1).toNat = k + 1 := by omega
          go_upto_region 11 with fail
          go_region
          all_goals
            go_wp2
            go_roundg (s - (t + 1))
            case measure => have := HN.out; omega
            case rel => exact ⟨t + 1, k + 1, by go_num, by omega, Lib.hid (by have := HK.out; omega), rfl, Lib.hid (HNW.out _ rfl).1, Lib.hid (HNW.out _ rfl).2⟩
        · have hkz : ¬ ((k : Int) < z) := by have := HK.out; have := HZ.out; omega
          obtain rfl : t = s := by omega
          have HE : Hid (∃ M : List Nat, M.Perm ([x] ++ R) ∧ M.Pairwise (ahead ks) ∧ BoxL wr blk (natI (P ++ (M ++ S)))) := by
            obtain ⟨d1, d2⟩ := ins_done (x := x) H.out.sr HT.out HD.out
            exact ⟨_, d2.trans List.perm_append_comm, d1, by rw [List.append_assoc, List.cons_append]; exact HBX.out⟩
          go_wp2
          go_end0
          exact ⟨⟨_, rfl⟩, HE.out, HBW.out⟩
end Go.Proofs.Ytmeilhjloeghhaa
namespace Go.Proofs.Ytmeilhjloeghhaa
open Go.RowKit

set_option maxRecDepth 100000 in
set_option maxHeartbeats 3200000 in
theorem sym_one_r (ks : Nat → Option Int) (blk N cap bx : Nat) (P L R S : List Nat) (W0 W : World) (a m b : Nat) (hNs : N ≤ 4096) (hC : CmpC ks N bx blk W0) (h : SymIn ks blk N W0 W P L R S a m b) (h0 : L.length ≠ 1) (h1 : R.length = 1) :
    Calls Try.prog 30 #[.slice (some ⟨blk, 0, none⟩) N cap, .int .i64 a, .int .i64 m, .int .i64 b, cmpV bx] W (RetSym ks blk W0 P L R S) := by
  obtain ⟨x, rfl⟩ := List.length_eq_one_iff.1 h1
  have H := Lib.hid h
  have HC := Lib.hid hC
  have hma : a < m := by have := h.hm; have := h.ha; have := h.hl; omega
  have hmb : b = m + 1 := by have := h.hm; have := h.hb; simp at *; omega
  have hbN : b ≤ N := by have := h.hN; have := h.hb; omega
  have HLm : Hid (m = a + L.length) := by have := h.hm; have := h.ha; show _ = _; omega
  have e0 : ((m : Int) - a == 1) = false := by have := HLm.out; simp; omega
  have e1 : (b : Int) - m = 1 := by omega
  have hxN : x < N := h.rn x (by simp)
  have HMB := Lib.hid hmb
  have HA := Lib.hid h.ha
  have hmN : (m : Int) < N := by omega
  unfold cmpV
  clear h hC hmb h0
  go_enter Try.func30, Try.ntmps30
  go_upto_region 15 with fail
  clear e1 e0
  go_loopg [14, 15] L.length (fun f s s2 wr => ∃ i j : Nat, s = .int .i64 i ∧ s2 = .int .i64 j ∧ a ≤ i ∧ i ≤ j ∧ j ≤ m ∧ Hid (f = j - i) ∧ Hid (∀ y ∈ L.take (i - a), ahead ks y x) ∧ Hid (∀ y ∈ L.drop (j - a), ahead ks x y) ∧ Hid (SymIn ks blk N W0 wr P L [x] S a m b))
  case atStart => exact ⟨a, m, rfl, rfl, by omega, by omega, by omega, Lib.hid (by have := HLm.out; omega), Lib.hid (by simp), Lib.hid (fun y hy => by rw [List.drop_of_length_le (by have := HLm.out; omega)] at hy; cases hy), H⟩
  case round =>
    obtain ⟨i, j, rfl, rfl, hmi, hij, hjb, HN, HT, HD, HW⟩ := hrel
    by_cases hlt : i < j
    · have hli : (i : Int) < j := by omega
      obtain ⟨hh, hhd⟩ : ∃ hh, hh = (i + j) / 2 := ⟨_, rfl⟩
      have e2 : ((i : Int) + j) / 2 = (hh : Int) := by omega
      have hi1 : i ≤ hh := by omega
      have hi2 : hh < j := by omega
      have hq : hh - a < L.length := by have := HLm.out; omega
      have c1 := row_L HW.out.row hq (i := hh) (by have := HA.out; omega)
      have c2 := row_R HW.out.row (q := 0) (by simp) (i := m) (by have := HW.out.hm; omega)
      have hyN := HW.out.ln _ (List.getElem_mem hq)
      have hxy := HW.out.lr _ (List.getElem_mem hq) x (by simp)
      have HTK : Hid (∀ z ∈ L.take (hh - a + 1), z = L[hh - a] ∨ ahead ks z L[hh - a]) := fun z hz => take_le HW.out.sl hq hz
      have HDK : Hid (∀ z ∈ L.drop (hh - a), z = L[hh - a] ∨ ahead ks L[hh - a] z) := fun z hz => drop_ge HW.out.sl hq hz
      simp only [List.getElem_cons_zero] at c2
      generalize L[hh - a] = y at *
      have CO := Lib.hid (HC.out.at HW.out.bel hxN hyN)
      have HCL : Hid (cmpK (ks x) (ks y) < 0 ↔ ahead ks x y) := cmp_gt_iff hxy
      have HCN : Hid (¬ cmpK (ks x) (ks y) < 0 → ahead ks y x) := cmp_not hxy
      generalize cmpK (ks x) (ks y) = c at *
      have hhN : (hh : Int) < N := by omega
      clear hhd hq hyN hxy
      go_upto_region 17 with fail
      by_cases hc : c < 0
      · have HAX := Lib.hid (HCL.out.1 hc)
        go_quiet ((go_at_call 25; exact CO.out _))
        go_wp2
        go_roundg (hh - i)
        case measure => have := HN.out; omega
        case rel => exact ⟨i, hh, rfl, rfl, hmi, hi1, by omega, rfl, HT, Lib.hid (fun z hz => by rcases HDK.out z hz with rfl | h; exact HAX.out; exact ahead_trans HAX.out h), Lib.hid (HW.out.draw _)⟩
      · have HAX := Lib.hid (HCN.out hc)
        go_quiet ((go_at_call 25; exact CO.out _))
        go_wp2
        go_roundg (j - (hh + 1))
        case measure => have := HN.out; omega
        case rel => exact ⟨hh + 1, j, by go_num, rfl, by omega, by omega, hjb, rfl, Lib.hid (fun z hz => by rw [show hh + 1 - a = hh - a + 1 by omega] at hz; rcases HTK.out z hz with rfl | h; exact HAX.out; exact ahead_trans h HAX.out), HD, Lib.hid (HW.out.draw _)⟩
    · have hli : ¬ ((i : Int) < j) := by omega
      obtain rfl : i = j := by omega
      obtain ⟨s, hs⟩ : ∃ s, s = i - a := ⟨_, rfl⟩
      have hsL : s ≤ L.length := by have := HLm.out; omega
      have HIS : Hid (i = a + s) := by show _ = _; omega
      rw [← hs] at HT HD
      have HX0 : Hid (BoxL wr blk (natI (P ++ (L.take L.length ++ x :: (L.drop L.length ++ S))))) := by have := HW.out.row; show BoxL _ _ _; simpa using this
      clear hs
      obtain ⟨wo, rfl⟩ : ∃ wo, wo = wr := ⟨_, rfl⟩
      go_upto_region 21 with fail
      go_loopg [17] (L.length - s) (fun f k wr => ∃ q k' : Nat, k = .int .i64 k' ∧ s ≤ q ∧ q ≤ L.length ∧ Hid (k' = a + q) ∧ Hid (f = q - s) ∧ Hid (BoxL wr blk (natI (P ++ (L.take q ++ x :: (L.drop q ++ S))))) ∧ Hid (Below blk W0 wr))
      case atStart => exact ⟨L.length, m, rfl, hsL, by omega, HLm, rfl, HX0, HW.out.bel⟩
      case round =>
        obtain ⟨q, k, rfl, hsq, hqL, HK, HN, HBX, HBW⟩ := hrel
        by_cases hlt2 : s < q
        · have hkz : (k : Int) > i := by have := HK.out; have := HIS.out; omega
          obtain ⟨q, rfl⟩ : ∃ q', q = q' + 1 := ⟨q - 1, by omega⟩
          have hqL2 : q < L.length := by omega
          obtain ⟨j1, hj1⟩ : ∃ j1, j1 = a + q := ⟨_, rfl⟩
          have e1 : (k : Int) - 1 = (j1 : Int) := by have := HK.out; omega
          have hsp := ins_split (P := P) (M := L) (R := S) (x := x) hqL2
          have hPA : j1 = (P ++ L.take q).length := by have := HA.out; rw [List.length_append, List.length_take]; omega
          have hPB : k = (P ++ L.take q).length + 1 + ([] : List Nat).length := by rw [← hPA]; have := HK.out; simp; omega
          obtain ⟨c1, f1⟩ := HBX.out.get j1 (natI_at hsp hPA)
          obtain ⟨c2, f2⟩ := HBX.out.get k (natI_at2 hsp hPB)
          have HNX := Lib.hid (ins_next (P := P) (M := L) (R := S) (x := x) hqL2)
          have HSP := Lib.hid hsp
          have HPA := Lib.hid hPA
          have HPB := Lib.hid hPB
          clear hsp hPA hPB
          generalize L[q] = y at *
          have hjN : (k : Int) < N := by have := HK.out; have := HLm.out; omega
          have hj1N : (j1 : Int) < N := by have := HK.out; have := HLm.out; omega
          have hj1j : j1 ≠ k := by have := HK.out; omega
          have HJ1 := Lib.hid hj1
          clear hj1
          have hz : (wr.setCell ⟨blk, k, none⟩ (.int .i64 y)).cell? ⟨blk, j1, none⟩ = some (.int .i64 y) := by
            rw [World.cell?_setCell_other _ _ _ _ (fun he => by injection he; omega)]; exact c1
          have HNW : Hid (∀ W, W = ((wr.setCell ⟨blk, k, none⟩ (.int .i64 y)).setCell ⟨blk, j1, none⟩ (.int .i64 x)).drew → BoxL W blk (natI (P ++ (L.take q ++ x :: (L.drop q ++ S)))) ∧ Below blk W0 W) := fun W hW => by
            subst hW
            rw [HNX.out]
            exact ⟨row_swap2 HBX.out HSP.out HPA.out HPB.out, (below_two HBW.out (Nat.le_refl _) _ _).drew⟩
          go_upto_region 23 with fail
          go_region
          all_goals
            go_wp2
            go_roundg (q - s)
            case measure => have := HN.out; omega
            case rel => exact ⟨q, j1, by first | rfl | go_num, by omega, by omega, HJ1, rfl, Lib.hid (HNW.out _ rfl).1, Lib.hid (HNW.out _ rfl).2⟩
        · have hkz : ¬ ((k : Int) > i) := by have := HK.out; have := HIS.out; omega
          obtain rfl : q = s := by omega
          have HE : Hid (∃ M : List Nat, M.Perm (L ++ [x]) ∧ M.Pairwise (ahead ks) ∧ BoxL wr blk (natI (P ++ (M ++ S)))) := by
            obtain ⟨d1, d2⟩ := ins_done (x := x) H.out.sl HT.out HD.out
            exact ⟨_, d2, d1, by rw [List.append_assoc, List.cons_append]; exact HBX.out⟩
          go_wp2
          go_end0
          exact ⟨⟨_, rfl⟩, HE.out, HBW.out⟩
end Go.Proofs.Ytmeilhjloeghhaa
namespace Go.Proofs.Ytmeilhjloeghhaa
open Go.RowKit

/-- the search for the place to part at, mid-way -/
structure SymLp (ks : Nat → Option Int) (L R : List Nat) (a m b md st rr : Nat) : Prop where
  hm : m = a + L.length
  hb : b = m + R.length
  hd : md = (a + b) / 2
  h1 : a ≤ st
  h2 : st ≤ rr
  h3 : rr ≤ m
  h4 : rr ≤ md
  h5 : md + m ≤ st + b
  A : ∀ x ∈ L.take (st - a), ∀ y ∈ R.drop (md - st), ahead ks x y
  B : ∀ x ∈ R.take (md - rr), ∀ y ∈ L.drop (rr - a), ahead ks x y
theorem SymLp.start1 {ks : Nat → Option Int} {L R : List Nat} {a m b md st : Nat} (hm : m = a + L.length) (hb : b = m + R.length) (hd : md = (a + b) / 2) (h : md < m) (hs : st + b = md + m) : SymLp ks L R a m b md st md :=
  ⟨hm, hb, hd, by omega, by omega, by omega, Nat.le_refl _, by omega, (fun x _ y hy => by rw [List.drop_of_length_le (by omega)] at hy; cases hy), fun x hx => by simp at hx⟩
theorem SymLp.start2 {ks : Nat → Option Int} {L R : List Nat} {a m b md : Nat} (hm : m = a + L.length) (hb : b = m + R.length) (hd : md = (a + b) / 2) (h : ¬ md < m) : SymLp ks L R a m b md a m :=
  ⟨hm, hb, hd, Nat.le_refl _, by omega, Nat.le_refl _, by omega, by omega, (fun x hx => by simp at hx), fun x _ y hy => by rw [List.drop_of_length_le (by omega)] at hy; cases hy⟩
theorem SymLp.up {ks : Nat → Option Int} {L R : List Nat} {a m b md st rr c : Nat} (H : SymLp ks L R a m b md st rr) (hL : L.Pairwise (ahead ks)) (hR : R.Pairwise (ahead ks)) (h1 : st ≤ c) (h2 : c < rr) (hi : c - a < L.length) (hj : md - 1 - c < R.length)
    (h : ahead ks L[c - a] R[md - 1 - c]) : SymLp ks L R a m b md (c + 1) rr := by
  have g1 := H.h1; have g2 := H.h2; have g3 := H.h3; have g4 := H.h4; have g5 := H.h5
  refine ⟨H.hm, H.hb, H.hd, by omega, by omega, g3, g4, by omega, ?_, H.B⟩
  have := sym_next (lt := ahead ks) (fun h1 h2 => ahead_trans h1 h2) hL hR hi hj h
  rw [show c + 1 - a = c - a + 1 by omega, show md - (c + 1) = md - 1 - c by omega]
  exact this
theorem SymLp.down {ks : Nat → Option Int} {L R : List Nat} {a m b md st rr c : Nat} (H : SymLp ks L R a m b md st rr) (hL : L.Pairwise (ahead ks)) (hR : R.Pairwise (ahead ks)) (h1 : st ≤ c) (h2 : c < rr) (hi : c - a < L.length) (hj : md - 1 - c < R.length)
    (h : ahead ks R[md - 1 - c] L[c - a]) : SymLp ks L R a m b md st c := by
  have g1 := H.h1; have g2 := H.h2; have g3 := H.h3; have g4 := H.h4; have g5 := H.h5
  refine ⟨H.hm, H.hb, H.hd, g1, h1, by omega, by omega, g5, H.A, ?_⟩
  have := sym_next (lt := ahead ks) (fun h1 h2 => ahead_trans h1 h2) hR hL hj hi h
  rw [show md - c = md - 1 - c + 1 by omega]
  exact this
/-- the parts, where one of them is empty -/
theorem sorted_part {lt : Nat → Nat → Prop} {X Y : List Nat} (hx : X.Pairwise lt) (hy : Y.Pairwise lt) (h : X = [] ∨ Y = []) : (X ++ Y).Pairwise lt := by
  rcases h with rfl | rfl
  · simpa using hy
  · simpa using hx
theorem four_same {P L R S : List Nat} {s t : Nat} (h : L.drop s = [] ∨ R.take t = []) : P ++ (L ++ (R ++ S)) = P ++ (L.take s ++ (R.take t ++ (L.drop s ++ (R.drop t ++ S)))) := by
  have e1 : L = L.take s ++ L.drop s := (List.take_append_drop s L).symm
  have e2 : R = R.take t ++ R.drop t := (List.take_append_drop t R).symm
  rcases h with h | h
  · have e3 : L.take s = L := by rw [h, List.append_nil] at e1; exact e1.symm
    rw [h, e3, List.nil_append, ← List.append_assoc (R.take t), List.take_append_drop]
  · have e3 : R.drop t = R := by rw [h, List.nil_append] at e2; exact e2.symm
    rw [h, e3, List.nil_append, ← List.append_assoc (L.take s), List.take_append_drop]
theorem four_split (P L R S : List Nat) (s t : Nat) : P ++ (L ++ (R ++ S)) = (P ++ L.take s) ++ (L.drop s ++ (R.take t ++ (R.drop t ++ S))) := by
  rw [← List.append_assoc (R.take t), List.take_append_drop, List.append_assoc, ← List.append_assoc (L.take s), List.take_append_drop]
end Go.Proofs.Ytmeilhjloeghhaa
