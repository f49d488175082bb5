/-
  Ranks, in plain Lean.
  weigh.Ranks, walked.
  coneyref02.Ranks and the law WeighRanks, walked.
  A slice of floats, of bools, that comes in.
-/
import Derived.Test.YtmeilhjloeghhaaKweigh6
import Derived.Test.YtmeilhjloeghhaaKweigh1
import Derived.Test.YtmeilhjloeghhaaKlib1
import Derived.Lib.SmallJoins
import Derived.ChangeArms
namespace Go.Proofs.Ytmeilhjloeghhaa
open Go.RowKit

/-- how many of the first n are ahead of i -/
def rankR (ks : Nat → Option Int) (n i : Nat) : Nat := ((List.range n).filter fun k => lessK (ks k) (ks i)).length
theorem nless_trans {a b c : Option Int} (h1 : lessK a b = false) (h2 : lessK b c = false) : lessK a c = false := by
  cases a <;> cases b <;> cases c <;> simp [lessK] at * <;> omega
theorem less_of {a b c : Option Int} (h1 : lessK b a = false) (h2 : lessK b c = true) : lessK a c = true := by
  cases h : lessK a c with
  | true => rfl
  | false => rw [nless_trans h1 h] at h2; cases h2
theorem less_to {a b c : Option Int} (h1 : lessK a b = true) (h2 : lessK c b = false) : lessK a c = true := by
  cases h : lessK a c with
  | true => rfl
  | false => rw [nless_trans h h2] at h1; cases h1
theorem rank_le {ks : Nat → Option Int} {n i k : Nat} (h : lessK (ks i) (ks k) = false) : rankR ks n k ≤ rankR ks n i := by
  unfold rankR
  rw [← List.countP_eq_length_filter, ← List.countP_eq_length_filter]
  exact List.countP_mono_left fun x _ hx => less_to hx h
theorem filter_lt {p q : Nat → Bool} {l : List Nat} {i : Nat} (h : ∀ x, p x = true → q x = true) (hi : i ∈ l) (hp : p i = false) (hq : q i = true) : (l.filter p).length < (l.filter q).length := by
  induction l with
  | nil => cases hi
  | cons a l ih =>
    have hle : (l.filter p).length ≤ (l.filter q).length := by
      rw [← List.countP_eq_length_filter, ← List.countP_eq_length_filter]
      exact List.countP_mono_left fun x _ hx => h x hx
    rcases List.mem_cons.1 hi with rfl | hi
    · simp [hp, hq]; omega
    · have := ih hi
      simp only [List.filter_cons]
      by_cases h1 : p a = true
      · simp [h1, h a h1]; exact this
      · by_cases h2 : q a = true
        · simp [h1, h2]; omega
        · simp [h1, h2]; exact this
theorem rank_lt {ks : Nat → Option Int} {n i k : Nat} (hi : i < n) (h : lessK (ks i) (ks k) = true) : rankR ks n i < rankR ks n k :=
  filter_lt (l := List.range n) (i := i) (fun _ hx => less_to hx (lessK_asymm h)) (List.mem_range.2 hi) (lessK_irrefl _) h
theorem rank_iff {ks : Nat → Option Int} {n i k : Nat} (hi : i < n) : decide (((rankR ks n i : Nat) : Int) < ((rankR ks n k : Nat) : Int)) = lessK (ks i) (ks k) := by
  cases h : lessK (ks i) (ks k) with
  | true => have := rank_lt (n := n) hi h; simp; omega
  | false => have := rank_le (n := n) h; simp; omega
theorem filter_perm {p : Nat → Bool} {a b : List Nat} (h : a.Perm b) : (a.filter p).length = (b.filter p).length := (h.filter p).length_eq
/-- the ranks along the order -/
theorem rank_order (ks : Nat → Option Int) (n i : Nat) : rankR ks n i = ((orderO ks n).filter fun k => lessK (ks k) (ks i)).length := by
  unfold rankR
  have h := order_perm ks n
  rw [← List.range_eq_range'] at h
  exact (filter_perm h).symm
theorem rank_here {ks : Nat → Option Int} {n : Nat} {L : List Nat} (hL : L = orderO ks n) (i : Nat) (h1 : i + 1 < L.length) (h : lessK (ks L[i]) (ks L[i + 1]) = true) : rankR ks n L[i + 1] = i + 1 := by
  have hs : L.Pairwise (ahead ks) := hL ▸ orderO_sorted ks n
  have hr := rank_order ks n L[i + 1]
  rw [← hL] at hr
  rw [hr]
  have h2 : ∀ x ∈ L.take (i + 1), lessK (ks x) (ks L[i + 1]) = true := fun x hx => by
    rcases take_le hs (show i < L.length by omega) hx with e1 | e1
    · rw [e1]; exact h
    · exact less_of (ahead_facts e1).1 h
  have h3 : ∀ x ∈ L.drop (i + 1), lessK (ks x) (ks L[i + 1]) = false := fun x hx => by
    rcases drop_ge hs h1 hx with e1 | e1
    · rw [e1]; exact lessK_irrefl _
    · exact (ahead_facts e1).1
  have e5 : ∀ p : Nat → Bool, (L.filter p).length = ((L.take (i + 1)).filter p).length + ((L.drop (i + 1)).filter p).length := fun p => by rw [← List.length_append, ← List.filter_append, List.take_append_drop]
  rw [e5]
  have hl : (L.take (i + 1)).length = i + 1 := by rw [List.length_take]; omega
  rw [List.filter_eq_self.2 h2, hl, List.filter_eq_nil_iff.2 (fun x hx => by simpa using h3 x hx)]
  rfl
theorem rank_same {ks : Nat → Option Int} {n : Nat} {L : List Nat} (hL : L = orderO ks n) (i : Nat) (h1 : i + 1 < L.length) (h : lessK (ks L[i]) (ks L[i + 1]) = false) : rankR ks n L[i + 1] = rankR ks n L[i] := by
  have hs : L.Pairwise (ahead ks) := hL ▸ orderO_sorted ks n
  exact Nat.le_antisymm (rank_le h) (rank_le (ahead_facts (List.pairwise_iff_getElem.1 hs i (i + 1) (by omega) h1 (by omega))).1)
theorem rank_first {ks : Nat → Option Int} {n : Nat} {L : List Nat} (hL : L = orderO ks n) (h1 : 0 < L.length) : rankR ks n L[0] = 0 := by
  have hs : L.Pairwise (ahead ks) := hL ▸ orderO_sorted ks n
  have hr := rank_order ks n L[0]
  rw [← hL] at hr
  rw [hr]
  rw [List.filter_eq_nil_iff.2 (fun x hx => ?_)]
  · rfl
  · rcases drop_ge hs h1 (by simpa using hx) with e1 | e1
    · rw [e1, lessK_irrefl]; simp
    · rw [(ahead_facts e1).1]; simp
end Go.Proofs.Ytmeilhjloeghhaa
namespace Go.Proofs.Ytmeilhjloeghhaa
open Go.RowKit

theorem ranks_put {ks : Nat → Option Int} {n i x : Nat} {L O : List Nat} (hO : O.length = n) (h : ∀ j (_ : j < i) (h2 : j < L.length), O[L[j]]? = some (rankR ks n L[j])) (hi : i < L.length) (hx : L[i] = x) (hxn : x < n) :
    (O.set x (rankR ks n x)).length = n ∧ ∀ j (_ : j < i + 1) (h2 : j < L.length), (O.set x (rankR ks n x))[L[j]]? = some (rankR ks n L[j]) := by
  refine ⟨by rw [List.length_set]; exact hO, fun j hj h2 => ?_⟩
  by_cases e : L[j] = x
  · rw [e, List.getElem?_set_self (by omega)]
  · have hji : j ≠ i := fun e2 => by subst e2; exact e hx
    rw [List.getElem?_set_ne (fun e2 => e e2.symm)]
    exact h j (by omega) h2
theorem ranks_all {ks : Nat → Option Int} {n : Nat} {L O : List Nat} (hL : L = orderO ks n) (hO : O.length = n) (h : ∀ j (_ : j < n) (h2 : j < L.length), O[L[j]]? = some (rankR ks n L[j])) : O = (List.range n).map (rankR ks n) := by
  apply List.ext_getElem?
  intro x
  by_cases hx : x < n
  · have hm : x ∈ L := by rw [hL, mem_orderO]; exact hx
    obtain ⟨p, hp, e⟩ := List.getElem_of_mem hm
    have hll : L.length = n := by rw [hL]; exact orderO_length _ _
    have := h p (by omega) hp
    rw [e] at this
    rw [this]; simp [hx]
  · rw [List.getElem?_eq_none (by omega), List.getElem?_eq_none (by simp; omega)]
set_option maxRecDepth 100000 in
set_option maxHeartbeats 3200000 in
theorem ranks_c (v : Value) (bs : List Nat) (w : World) (h : FlAt w v bs) (hl : bs.length ≤ 4096) :
    Calls Try.prog 20 #[v] w fun e w' => ∃ ob, e = .returned (.slice (some ⟨ob, 0, none⟩) bs.length bs.length) ∧ SlAt w' 1 (.slice (some ⟨ob, 0, none⟩) bs.length bs.length) bs.length (natI ((List.range bs.length).map (rankR (keyAt bs) bs.length))) ∧ Below w.heap.size w w' := by
  obtain ⟨ao, cap, rfl, _⟩ := h.1.shape
  have H := Lib.hid h
  have HMK := mk_places bs.length hl w
  obtain ⟨V, hV⟩ : ∃ V, V = w.alloc (.cells (madeCells #[.int .i64 0] bs.length) 3) := ⟨_, rfl⟩
  have BV : Hid (Below w.heap.size w V) := by rw [hV]; exact (Below.refl _ _).alloc (Nat.le_refl _) _
  have sV : V.heap.size = w.heap.size + 1 := by rw [hV]; simp
  have XR : Hid (BoxL V w.heap.size (natI (List.range' 0 0 ++ List.replicate (bs.length - 0) 0))) := by
    rw [← made_places, hV]; exact BoxL.mk' w (madeCells #[.int .i64 0] bs.length) 3
  have HV := Lib.hid hV
  have HSV := Lib.hid sV
  obtain ⟨L, hL⟩ : ∃ L, L = orderO (keyAt bs) bs.length := ⟨_, rfl⟩
  have HL := Lib.hid hL
  have HOL : Hid (L.length = bs.length) := by rw [hL]; exact orderO_length _ _
  have HLT : Hid (∀ x ∈ L, x < bs.length) := fun x hx => by rw [hL] at hx; exact orderO_lt _ _ x hx
  have HKY : Hid (∀ x (hx : x < bs.length), keyAt bs x = wk bs[x]) := fun x hx => by unfold keyAt; rw [List.getD_eq_getElem?_getD, List.getElem?_eq_getElem hx]; rfl
  have CO : Hid (∀ W, Below w.heap.size w W → Calls Try.prog 16 #[.slice ao bs.length cap] W fun e w' => ∃ blk, e = .returned (.slice (some ⟨blk, 0, none⟩) bs.length bs.length) ∧ SlAt w' 1 (.slice (some ⟨blk, 0, none⟩) bs.length bs.length) bs.length (natI L) ∧ W.heap.size ≤ blk ∧ Below W.heap.size W w') := fun W hW => by rw [hL]; exact order_c _ bs W (H.out.below hW) hl
  clear h hV sV hL
  go_enter Try.func20, Try.ntmps20
  go_upto_region 3 with fail
  rw [← HV.out]
  clear HV HMK
  go_upto_region 5 with (first | (go_at_call 16; (with_reducible refine (CO.out _ BV.out).mono ?_); rintro e W1 ⟨blk, rfl, sl, hb0, bb⟩; have S1 := Lib.hid sl; have B1 := Lib.hid bb; have HB0 := Lib.hid hb0; clear sl bb hb0))
  have BW1 : Hid (Below w.heap.size w W1) := BV.out.trans (B1.out.mono BV.out.size)
  have XO : Hid (BoxL W1 w.heap.size (natI (List.range' 0 0 ++ List.replicate (bs.length - 0) 0))) := XR.out.block (B1.out.block _ (by have := HSV.out; omega))
  have hsw : w.heap.size < W1.heap.size := by have := B1.out.size; have := HSV.out; omega
  have hbo : blk ≠ w.heap.size := by have := HB0.out; have := HSV.out; omega
  go_loopg [4, 6, 7, 15] bs.length (fun f s4 s6 s7 s wr => ∃ i r : Nat, s = .int .i64 i ∧ s4 = .int .i64 r ∧ i ≤ bs.length ∧ r ≤ bs.length ∧ Hid (f = bs.length - i) ∧ Hid (i = 0 → r = 0) ∧ Hid (∀ k (_ : i = k + 1) (h2 : k < L.length), r = rankR (keyAt bs) bs.length L[k]) ∧ Hid (∃ O : List Nat, O.length = bs.length ∧ (∀ j (_ : j < i) (h2 : j < L.length), O[L[j]]? = some (rankR (keyAt bs) bs.length L[j])) ∧ BoxL wr w.heap.size (natI O)) ∧ Hid (Below w.heap.size W1 wr) ∧ Hid (wr.heap[blk]? = W1.heap[blk]?) ∧ Hid (W1.heap.size ≤ wr.heap.size))
  case atStart => exact ⟨0, 0, rfl, rfl, by omega, by omega, rfl, Lib.hid (fun _ => rfl), Lib.hid (fun k h => by omega), ⟨_, by simp, fun j hj => by omega, XO.out⟩, Below.refl _ _, rfl, Lib.hid (Nat.le_refl _)⟩
  case round =>
    obtain ⟨i, r, rfl, rfl, hi, hr, HN, HR0, HRK, HO, HB, HBK, HSZ⟩ := hrel
    have BW : Hid (Below w.heap.size w wr) := BW1.out.trans HB.out
    by_cases hlt : i < bs.length
    · have hki : (i : Int) < bs.length := by omega
      have h1 : i < L.length := by rw [HOL.out]; exact hlt
      obtain ⟨b1, o1, hbe, q1, c1⟩ := slAt_nat S1.out i h1
      simp only [Option.some.injEq, Addr.mk.injEq, and_true] at hbe
      obtain ⟨rfl, rfl⟩ := hbe
      rw [Nat.zero_add, ← World.cell?_of_block (a := ⟨blk, i, none⟩) HBK.out] at c1
      have hxn := HLT.out _ (List.getElem_mem h1)
      obtain ⟨O, hOl, hOv, hOx⟩ := HO.out
      have HPUT : Hid (∀ x, L[i] = x → x < bs.length → (O.set x (rankR (keyAt bs) bs.length x)).length = bs.length ∧ ∀ j (_ : j < i + 1) (h2 : j < L.length), (O.set x (rankR (keyAt bs) bs.length x))[L[j]]? = some (rankR (keyAt bs) bs.length L[j])) := fun x hx hxn => ranks_put hOl hOv h1 hx hxn
      have HXL : Hid (∀ x, L[i] = x → ∀ k (_ : i + 1 = k + 1) (h2 : k < L.length), rankR (keyAt bs) bs.length x = rankR (keyAt bs) bs.length L[k]) := fun x hx k hk h2 => by
        obtain rfl : i = k := by omega
        rw [hx]
      have HOX := Lib.hid hOx
      have HOLN := Lib.hid hOl
      obtain ⟨b, off, cap', he, hcap, hbs, hc⟩ := FlAt.at (H.out.below BW.out) (by omega)
      simp only [Value.slice.injEq, true_and] at he
      obtain ⟨rfl, rfl⟩ := he
      have HC := Lib.hid hc
      have hjx : (L[i] : Int) < bs.length := by omega
      have HST : Hid (∀ (W2 : World) (q : Nat), W2 = wr.drewN q → ∀ x, L[i] = x → x < bs.length → (∃ u, W2.cell? ⟨w.heap.size, x, none⟩ = some u) ∧ W2.frozen? ⟨w.heap.size, x, none⟩ = false ∧ BoxL (W2.setCell ⟨w.heap.size, x, none⟩ (.int .i64 ((rankR (keyAt bs) bs.length x : Nat) : Int))) w.heap.size (natI (O.set x (rankR (keyAt bs) bs.length x))) ∧ Below w.heap.size W1 (W2.setCell ⟨w.heap.size, x, none⟩ (.int .i64 ((rankR (keyAt bs) bs.length x : Nat) : Int))) ∧ (W2.setCell ⟨w.heap.size, x, none⟩ (.int .i64 ((rankR (keyAt bs) bs.length x : Nat) : Int))).heap[blk]? = W1.heap[blk]? ∧ W1.heap.size ≤ (W2.setCell ⟨w.heap.size, x, none⟩ (.int .i64 ((rankR (keyAt bs) bs.length x : Nat) : Int))).heap.size) := fun W2 q hW2 x hx hxn => by
        have hxo : x < (natI O).length := by rw [natI_len, HOLN.out]; exact hxn
        have hbx : BoxL W2 w.heap.size (natI O) := by rw [hW2]; exact row_drewN HOX.out q
        have hbw : Below w.heap.size W1 W2 := by rw [hW2]; exact below_drewN HB.out q
        have hhp : W2.heap = wr.heap := by
          rw [hW2]
          clear hW2
          induction q with
          | zero => rfl
          | succ q ih => exact ih
        obtain ⟨g1, g2⟩ := hbx.get x (List.getElem?_eq_getElem hxo)
        refine ⟨⟨_, g1⟩, g2, ?_, hbw.setCell (p := ⟨w.heap.size, x, none⟩) (Nat.le_refl _) _, ?_, ?_⟩
        · rw [natI_set]; exact hbx.set x hxo _
        · rw [Below.heap_setCell _ _ _ _ hbo, hhp]; exact HBK.out
        · have := HSZ.out
          rw [← hhp] at this
          simpa using this
      obtain ⟨x, hx⟩ : ∃ x, L[i] = x := ⟨_, rfl⟩
      rw [hx] at c1 hjx hxn
      have HST2 : Hid (∀ (W2 : World) (q : Nat) (r' : Nat), W2 = wr.drewN q → r' = rankR (keyAt bs) bs.length x → (∃ u, W2.cell? ⟨w.heap.size, x, none⟩ = some u) ∧ W2.frozen? ⟨w.heap.size, x, none⟩ = false ∧ BoxL (W2.setCell ⟨w.heap.size, x, none⟩ (.int .i64 ((r' : Nat) : Int))) w.heap.size (natI (O.set x (rankR (keyAt bs) bs.length x))) ∧ Below w.heap.size W1 (W2.setCell ⟨w.heap.size, x, none⟩ (.int .i64 ((r' : Nat) : Int))) ∧ (W2.setCell ⟨w.heap.size, x, none⟩ (.int .i64 ((r' : Nat) : Int))).heap[blk]? = W1.heap[blk]? ∧ W1.heap.size ≤ (W2.setCell ⟨w.heap.size, x, none⟩ (.int .i64 ((r' : Nat) : Int))).heap.size) := fun W2 q r' hW2 hr' => by
        rw [hr']; exact HST.out W2 q hW2 x hx hxn
      have HPUT2 := Lib.hid (HPUT.out x hx hxn)
      have HXL2 := Lib.hid (HXL.out x hx)
      have hd1 := hc x hxn
      have HKX := Lib.hid (HKY.out x hxn)
      have hw1 := H.out.2 _ (List.getElem_mem hxn)
      have HX := Lib.hid hx
      clear HST HPUT HXL hOl hOv hOx HO hc
      rcases Nat.eq_zero_or_pos i with h0 | h0
      · have hig : decide (0 < i) = false := by simp; omega
        have HRX : Hid (r = rankR (keyAt bs) bs.length x) := by
          have h1' : 0 < L.length := by omega
          have e : L[0] = x := by have := HX.out; subst h0; exact this
          show _ = _
          rw [← e, rank_first HL.out h1']
          exact HR0.out h0
        clear hx h0 HX h1
        go_upto_region 7 with fail
        go_quiet (fail)
        obtain ⟨w2, hw2⟩ : ∃ w2, w2 = wr.drewN nq := ⟨_, rfl⟩
        obtain ⟨⟨u, g1⟩, g2, g3, g4, g5, g6⟩ := HST2.out w2 nq r hw2 HRX.out
        have G3 := Lib.hid g3
        have G4 := Lib.hid g4
        have G5 := Lib.hid g5
        have G6 := Lib.hid g6
        clear g3 g4 g5 g6
        rw [← hw2]
        clear hw2
        go_wp2
        go_roundg (bs.length - (i + 1))
        case measure => have := HN.out; omega
        case rel => exact ⟨i + 1, r, by go_num, rfl, by omega, hr, rfl, Lib.hid (fun h => by omega), Lib.hid (fun k hk h2 => by rw [HRX.out]; exact HXL2.out k hk h2), ⟨_, HPUT2.out.1, HPUT2.out.2, G3.out⟩, G4, G5, G6⟩
      · obtain ⟨k, hik⟩ : ∃ k, i = k + 1 := ⟨i - 1, by omega⟩
        have hig : decide (0 < i) = true := by simp; omega
        have e1 : (i : Int) - 1 = (k : Int) := by omega
        have hkl : k < L.length := by omega
        have hwi : IntKind.i64.wrap (k : Int) = (k : Int) := IntWalk.i64_in _ (by omega)
        have hkn : (k : Int) < bs.length := by omega
        obtain ⟨b2, o2, hbe, q2, c2⟩ := slAt_nat S1.out k hkl
        simp only [Option.some.injEq, Addr.mk.injEq, and_true] at hbe
        obtain ⟨rfl, rfl⟩ := hbe
        rw [Nat.zero_add, ← World.cell?_of_block (a := ⟨blk, k, none⟩) HBK.out] at c2
        have hyn := HLT.out _ (List.getElem_mem hkl)
        have hrk := HRK.out k hik hkl
        have HSAME : Hid (lessK (keyAt bs L[k]) (keyAt bs x) = false → rankR (keyAt bs) bs.length x = rankR (keyAt bs) bs.length L[k]) := fun hf => by
          have h2 : k + 1 < L.length := by omega
          have e : L[k + 1] = x := by have := HX.out; subst hik; exact this
          rw [← e] at hf ⊢
          exact rank_same HL.out k h2 hf
        have HHERE : Hid (lessK (keyAt bs L[k]) (keyAt bs x) = true → rankR (keyAt bs) bs.length x = i) := fun hf => by
          have h2 : k + 1 < L.length := by omega
          have e : L[k + 1] = x := by have := HX.out; subst hik; exact this
          rw [← e] at hf ⊢
          rw [rank_here HL.out k h2 hf, hik]
        have HIK := Lib.hid hik
        have HRR := Lib.hid hrk
        obtain ⟨y, hy⟩ : ∃ y, L[k] = y := ⟨_, rfl⟩
        rw [hy] at c2 hyn HSAME HHERE HRR
        have hjy : (y : Int) < bs.length := by omega
        have hd2 := HC.out y hyn
        have hw2' := H.out.2 _ (List.getElem_mem hyn)
        rw [HKY.out y hyn, HKX.out] at HSAME HHERE
        clear hy hrk hx hik h0 HX h1 hkl
        generalize bs[y] = fy at *
        generalize bs[x] = fx at *
        have CL : Hid (∀ w, Calls Try.prog 10 #[.float .f64 fy, .float .f64 fx] w fun e w' => e = .returned (.bool (lessK (wk fy) (wk fx))) ∧ w = w') := fun w => less_any fy fx w hw2' hw1
        generalize lessK (wk fy) (wk fx) = lyx at *
        clear hw1 hw2' hxn hyn
        go_upto_region 7 with fail
        cases lyx with
        | true =>
          have HRX : Hid (i = rankR (keyAt bs) bs.length x) := (HHERE.out (by first | rfl | trivial)).symm
          go_quiet ((go_at_call 10; with_reducible exact q_same CL.out))
          obtain ⟨w2, hw2⟩ : ∃ w2, w2 = wr.drewN nq := ⟨_, rfl⟩
          obtain ⟨⟨u, g1⟩, g2, g3, g4, g5, g6⟩ := HST2.out w2 nq i hw2 HRX.out
          have G3 := Lib.hid g3
          have G4 := Lib.hid g4
          have G5 := Lib.hid g5
          have G6 := Lib.hid g6
          clear g3 g4 g5 g6
          rw [← hw2]
          clear hw2
          go_wp2
          go_roundg (bs.length - (i + 1))
          case measure => have := HN.out; omega
          case rel => exact ⟨i + 1, i, by go_num, rfl, by omega, hi, rfl, Lib.hid (fun h => by omega), Lib.hid (fun k hk h2 => HRX.out.trans (HXL2.out k hk h2)), ⟨_, HPUT2.out.1, HPUT2.out.2, G3.out⟩, G4, G5, G6⟩
        | false =>
          have HRX : Hid (r = rankR (keyAt bs) bs.length x) := HRR.out.trans (HSAME.out (by first | rfl | trivial)).symm
          go_quiet ((go_at_call 10; with_reducible exact q_same CL.out))
          obtain ⟨w2, hw2⟩ : ∃ w2, w2 = wr.drewN nq := ⟨_, rfl⟩
          obtain ⟨⟨u, g1⟩, g2, g3, g4, g5, g6⟩ := HST2.out w2 nq r hw2 HRX.out
          have G3 := Lib.hid g3
          have G4 := Lib.hid g4
          have G5 := Lib.hid g5
          have G6 := Lib.hid g6
          clear g3 g4 g5 g6
          rw [← hw2]
          clear hw2
          go_wp2
          go_roundg (bs.length - (i + 1))
          case measure => have := HN.out; omega
          case rel => exact ⟨i + 1, r, by go_num, rfl, by omega, hr, rfl, Lib.hid (fun h => by omega), Lib.hid (fun k hk h2 => HRX.out.trans (HXL2.out k hk h2)), ⟨_, HPUT2.out.1, HPUT2.out.2, G3.out⟩, G4, G5, G6⟩
    · have hki : ¬ ((i : Int) < bs.length) := by omega
      obtain rfl : i = bs.length := by omega
      obtain ⟨O, hOl, hOv, hOx⟩ := HO.out
      have HE : Hid (SlAt wr 1 (.slice (some ⟨w.heap.size, 0, none⟩) bs.length bs.length) bs.length (natI ((List.range bs.length).map (rankR (keyAt bs) bs.length)))) := by
        rw [← ranks_all HL.out hOl hOv]
        exact slAt_row hOx hOl hl (by have := HSZ.out; omega)
      clear hOl hOv hOx HO
      go_wp2
      go_ret
      exact ⟨_, rfl, HE.out, BW.out⟩
end Go.Proofs.Ytmeilhjloeghhaa
namespace Go.Proofs.Ytmeilhjloeghhaa
open Go.RowKit

def cntK (ks : Nat → Option Int) (i k : Nat) : Nat := ((List.range k).filter fun j => lessK (ks j) (ks i)).length
theorem cntK_step (ks : Nat → Option Int) (i k : Nat) : cntK ks i (k + 1) = cntK ks i k + (if lessK (ks k) (ks i) then 1 else 0) := by
  unfold cntK
  rw [List.range_succ, List.filter_append, List.length_append, List.filter_cons]
  cases lessK (ks k) (ks i) <;> simp
theorem natI_snoc (l : List Nat) (x : Nat) : natI l ++ [.int .i64 (x : Int)] = natI (l ++ [x]) := by simp [natI]
set_option maxRecDepth 100000 in
set_option maxHeartbeats 3200000 in
theorem refRanks_c (v : Value) (bs : List Nat) (w : World) (h : FlAt w v bs) (hl : bs.length ≤ 4096) :
    Calls Try.prog 21 #[v] w fun e w' => ∃ v', e = .returned v' ∧ SlAt w' 1 v' bs.length (natI ((List.range bs.length).map (rankR (keyAt bs) bs.length))) ∧ Below w.heap.size w w' := by
  obtain ⟨i0, hi, hz0, hz1, hz2⟩ := info_parts Try.infoInt
  obtain ⟨ao, cap, rfl, _⟩ := h.1.shape
  have H := Lib.hid h
  have HKY : Hid (∀ x (hx : x < bs.length), keyAt bs x = wk bs[x]) := fun x hx => by unfold keyAt; rw [List.getD_eq_getElem?_getD, List.getElem?_eq_getElem hx]; rfl
  obtain ⟨V, hV⟩ : ∃ V, V = w.alloc (.cells #[] 3) := ⟨_, rfl⟩
  have BV : Hid (Below w.heap.size w V) := by rw [hV]; exact (Below.refl _ _).alloc (Nat.le_refl _) _
  have R0 : Hid (V.ownsRow w.heap.size 3 1 (.slice (some ⟨w.heap.size, 0, none⟩) 0 0) 0 (natI ((List.range 0).map (rankR (keyAt bs) bs.length)))) := by rw [hV]; exact World.ownsRow_made w #[] 0 (Nat.le_refl _) (by decide) rfl
  have HV := Lib.hid hV
  clear h hV
  go_enter Try.func21, Try.ntmps21
  go_upto_region 3 with fail
  rw [← HV.out]
  clear HV
  go_loopg [3, 4, 5, 6] bs.length (fun f o s s5 s6 wr => ∃ (i : Nat) (oa : Option Addr) (oc : Nat), o = .slice oa i oc ∧ s = .int .i64 i ∧ i ≤ bs.length ∧ Hid (f = bs.length - i) ∧ Hid (wr.ownsRow w.heap.size 3 1 (.slice oa i oc) i (natI ((List.range i).map (rankR (keyAt bs) bs.length)))) ∧ Hid (Below w.heap.size w wr))
  case atStart => exact ⟨0, some ⟨w.heap.size, 0, none⟩, 0, rfl, rfl, by omega, rfl, R0, BV⟩
  case round =>
    obtain ⟨i, oa, oc, rfl, rfl, hi', HN, HO, HW⟩ := hrel
    obtain ⟨wo, rfl⟩ : ∃ wo, wo = wr := ⟨_, rfl⟩
    by_cases hlt : i < bs.length
    · have hki : (i : Int) < bs.length := by omega
      go_upto_region 7 with fail
      go_loopg [5, 6] bs.length (fun f s5 s6 wr => ∃ c k q : Nat, s5 = .int .i64 c ∧ s6 = .int .i64 k ∧ k ≤ bs.length ∧ c ≤ k ∧ Hid (f = bs.length - k) ∧ Hid (c = cntK (keyAt bs) i k) ∧ Hid (wr = wo.drewN q))
      case atStart => exact ⟨0, 0, 0, rfl, rfl, by omega, by omega, rfl, rfl, rfl⟩
      case round =>
        obtain ⟨c, k, q, rfl, rfl, hk, hck, HM, HC, HQ⟩ := hrel
        have BW : Hid (Below w.heap.size w wr) := by show Below _ _ _; rw [HQ.out]; exact below_drewN HW.out q
        by_cases hlk : k < bs.length
        · have hkk : (k : Int) < bs.length := by omega
          obtain ⟨b, off, cap', he, hcap, hbs, hc⟩ := FlAt.at (H.out.below BW.out) (by omega)
          simp only [Value.slice.injEq, true_and] at he
          obtain ⟨rfl, rfl⟩ := he
          have d1 := hc i hlt
          have d2 := hc k hlk
          have HS : Hid (cntK (keyAt bs) i (k + 1) = cntK (keyAt bs) i k + (if lessK (wk bs[k]) (wk bs[i]) then 1 else 0)) := by
            have := cntK_step (keyAt bs) i k
            rw [HKY.out i hlt, HKY.out k hlk] at this
            exact this
          have CL0 : Hid (∀ w, Calls Try.prog 11 #[.float .f64 bs[k], .float .f64 bs[i]] w fun e w' => e = .returned (.bool (lessK (wk bs[k]) (wk bs[i]))) ∧ w = w') := fun w => refLess_any _ _ w
          generalize lessK (wk bs[k]) (wk bs[i]) = lb at *
          generalize bs[k] = fk at *
          generalize bs[i] = fi at *
          clear hc
          go_upto_region 9 with fail
          cases lb with
          | true =>
            go_quiet ((go_at_call 11; with_reducible exact q_same CL0.out))
            go_wp2
            go_roundg (bs.length - (k + 1))
            case measure => have := HM.out; omega
            case rel => exact ⟨c + 1, k + 1, _, by go_num, by go_num, by omega, by omega, rfl, Lib.hid (by rw [HS.out, ← HC.out]; rfl), Lib.hid (by rw [HQ.out, World.drewN_drewN])⟩
          | false =>
            go_quiet ((go_at_call 11; with_reducible exact q_same CL0.out))
            go_wp2
            go_roundg (bs.length - (k + 1))
            case measure => have := HM.out; omega
            case rel => exact ⟨c, k + 1, _, rfl, by go_num, by omega, by omega, rfl, Lib.hid (by rw [HS.out, ← HC.out]; rfl), Lib.hid (by rw [HQ.out, World.drewN_drewN])⟩
        · have hkk : ¬ ((k : Int) < bs.length) := by omega
          obtain rfl : k = bs.length := by omega
          have HO2 : Hid (wr.ownsRow w.heap.size 3 1 (.slice oa i oc) i (natI ((List.range i).map (rankR (keyAt bs) bs.length)))) := by
            rw [HQ.out]
            have h := HO.out
            clear HQ BW
            induction q with
            | zero => exact h
            | succ q ih => exact World.ownsRow.drew ih
          have hub : w.heap.size ≤ wr.heap.size := BW.out.size
          have HSN : Hid (natI ((List.range i).map (rankR (keyAt bs) bs.length)) ++ [.int .i64 (c : Int)] = natI ((List.range (i + 1)).map (rankR (keyAt bs) bs.length))) := by
            show _ = _
            rw [natI_snoc, List.range_succ, List.map_append, HC.out]; rfl
          go_wp2_with (at_builtin; refine wpList_append1 rfl (.tmp 31) (.tmp 33) 31 rfl w.heap.size 3 i0 (.int .i64 0) 8 Try.underlying31 hi hz0 hz1 hz2 rfl _ i _ rfl HO2.out (.int .i64 c) rfl rfl (by omega) hub ?_; intro v2 w2 o2 b2 g2; obtain ⟨na, nc, rfl, _⟩ := (SlAt.of_own o2).shape; have O2 := Lib.hid o2; have B2 := Lib.hid b2; clear o2 b2 g2)
          go_roundg (bs.length - (i + 1))
          case measure => have := HN.out; omega
          case rel => exact ⟨i + 1, na, nc, rfl, by go_num, by omega, rfl, Lib.hid (by rw [← HSN.out]; exact O2.out), BW.out.trans B2.out⟩
    · have hki : ¬ ((i : Int) < bs.length) := by omega
      obtain rfl : i = bs.length := by omega
      go_wp2
      go_ret
      exact ⟨_, rfl, SlAt.of_own HO.out, HW.out⟩
set_option maxRecDepth 100000 in
set_option maxHeartbeats 3200000 in
theorem weighRanks_any (v : Value) (bs : List Nat) (w : World) (h : FlAt w v bs) :
    Calls Try.prog 8 #[v] w fun e w' => e = .returned (.bool true) ∧ Below w.heap.size w w' := by
  obtain ⟨ao, cap, rfl, _⟩ := h.1.shape
  by_cases hl : 128 < bs.length
  · have hli : (bs.length : Int) > 128 := by omega
    clear h
    go_enter Try.func8, Try.ntmps8
    go_wp2
    go_ret
    exact ⟨rfl, Below.refl _ _⟩
  have H := Lib.hid h
  have hli : ¬ ((bs.length : Int) > 128) := by omega
  have hl4 : bs.length ≤ 4096 := by omega
  obtain ⟨L, hL⟩ : ∃ L, L = (List.range bs.length).map (rankR (keyAt bs) bs.length) := ⟨_, rfl⟩
  have HOL : Hid (L.length = bs.length) := by rw [hL]; show _ = _; simp
  have HKY : Hid (∀ x (hx : x < bs.length), keyAt bs x = wk bs[x]) := fun x hx => by unfold keyAt; rw [List.getD_eq_getElem?_getD, List.getElem?_eq_getElem hx]; rfl
  have HRI : Hid (∀ i k (hi : i < bs.length) (hk : k < bs.length) (h1 : i < L.length) (h2 : k < L.length), decide ((L[i] : Int) < L[k]) = lessK (wk bs[i]) (wk bs[k])) := fun i k hi hk h1 h2 => by
    have e1 : L[i] = rankR (keyAt bs) bs.length i := by simp [hL]
    have e2 : L[k] = rankR (keyAt bs) bs.length k := by simp [hL]
    rw [e1, e2, rank_iff hi, HKY.out i hi, HKY.out k hk]
  have CR : Hid (∀ W, Below w.heap.size w W → Calls Try.prog 20 #[.slice ao bs.length cap] W fun e w' => ∃ ob, e = .returned (.slice (some ⟨ob, 0, none⟩) bs.length bs.length) ∧ SlAt w' 1 (.slice (some ⟨ob, 0, none⟩) bs.length bs.length) bs.length (natI L) ∧ Below W.heap.size W w') := fun W hW => by rw [hL]; exact ranks_c _ bs W (H.out.below hW) hl4
  have RR : Hid (∀ W, Below w.heap.size w W → Calls Try.prog 21 #[.slice ao bs.length cap] W fun e w' => ∃ v', e = .returned v' ∧ SlAt w' 1 v' bs.length (natI L) ∧ Below W.heap.size W w') := fun W hW => by rw [hL]; exact refRanks_c _ bs W (H.out.below hW) hl4
  have CSM : Hid (∀ va vb W, SlAt W 1 va bs.length (natI L) → SlAt W 1 vb bs.length (natI L) → Calls Try.prog 18 #[va, vb] W fun e w' => e = .returned (.bool true) ∧ Below W.heap.size W w') := fun va vb W h1 h2 => sameNat_c va vb L bs.length HOL.out hl4 W h1 h2
  clear h hL
  go_enter Try.func8, Try.ntmps8
  go_upto_region 6 with (first
    | (go_at_call 20; (with_reducible refine (CR.out _ (Below.refl _ _)).mono ?_); rintro e W1 ⟨blk, rfl, sl, bb⟩; have S1 := Lib.hid sl; have B1 := Lib.hid bb; clear sl bb)
    | (go_at_call 21; (with_reducible refine (RR.out _ B1.out).mono ?_); rintro e W2 ⟨v2, rfl, sl, bb⟩; obtain ⟨ra, rc, rfl, _⟩ := sl.shape; have S2 := Lib.hid sl; have S12 := Lib.hid (S1.out.below bb); have B2 := Lib.hid (B1.out.trans (bb.mono B1.out.size)); clear sl bb)
    | (go_at_call 18; (with_reducible refine (CSM.out _ _ _ S12.out S2.out).mono ?_); rintro e W3 ⟨rfl, bb⟩; have S3 := Lib.hid (S12.out.below bb); have B3 := Lib.hid (B2.out.trans (bb.mono B2.out.size)); clear bb))
  go_upto_region 7 with fail
  go_loopg [4, 5] bs.length (fun f s s5 wr => ∃ i q : Nat, s = .int .i64 i ∧ i ≤ bs.length ∧ Hid (f = bs.length - i) ∧ Hid (wr = W3.drewN q))
  case atStart => exact ⟨0, 0, rfl, by omega, rfl, rfl⟩
  case round =>
    obtain ⟨i, q, rfl, hi, HN, HW⟩ := hrel
    obtain ⟨wo, rfl⟩ : ∃ wo, wo = wr := ⟨_, rfl⟩
    by_cases hlt : i < bs.length
    · have hki : (i : Int) < bs.length := by omega
      go_upto_region 10 with fail
      go_loopg [5] bs.length (fun f s wr => ∃ k q : Nat, s = .int .i64 k ∧ k ≤ bs.length ∧ Hid (f = bs.length - k) ∧ Hid (wr = W3.drewN q))
      case atStart => exact ⟨0, q, rfl, by omega, rfl, HW⟩
      case round =>
        obtain ⟨k, q2, rfl, hk, HM, HQ⟩ := hrel
        have BW : Hid (Below W3.heap.size W3 wr) := by show Below _ _ _; rw [HQ.out]; exact below_drewN (Below.refl _ _) q2
        by_cases hlk : k < bs.length
        · have hkk : (k : Int) < bs.length := by omega
          have h1 : i < L.length := by rw [HOL.out]; exact hlt
          have h2 : k < L.length := by rw [HOL.out]; exact hlk
          obtain ⟨b1, o1, hbe, q1, c1⟩ := slAt_nat (S3.out.below BW.out) i h1
          obtain ⟨b2, o2, hbe2, q3, c2⟩ := slAt_nat (S3.out.below BW.out) k h2
          simp only [Option.some.injEq, Addr.mk.injEq, and_true] at hbe hbe2
          obtain ⟨rfl, rfl⟩ := hbe
          obtain ⟨rfl, rfl⟩ := hbe2
          rw [Nat.zero_add] at c1 c2
          obtain ⟨b, off, cap', he, hcap, hbs, hc⟩ := FlAt.at (H.out.below (B3.out.trans (BW.out.mono B3.out.size))) (by omega)
          simp only [Value.slice.injEq, true_and] at he
          obtain ⟨rfl, rfl⟩ := he
          have d1 := hc i hlt
          have d2 := hc k hlk
          have hw1 := H.out.2 _ (List.getElem_mem hlt)
          have hw2 := H.out.2 _ (List.getElem_mem hlk)
          have hri := HRI.out i k hlt hlk h1 h2
          have CL : Hid (∀ w, Calls Try.prog 10 #[.float .f64 bs[i], .float .f64 bs[k]] w fun e w' => e = .returned (.bool (lessK (wk bs[i]) (wk bs[k]))) ∧ w = w') := fun w => less_any _ _ w hw1 hw2
          rw [← hri] at CL
          generalize bs[i] = fi at *
          generalize bs[k] = fk at *
          generalize L[i] = xi at *
          generalize L[k] = xk at *
          have hxd : decide ((xi : Int) < xk) = decide (xi < xk) := by simp
          rw [hxd] at CL
          clear hc hri hw1 hw2 hxd h1 h2
          go_upto_region 12 with fail
          cases hb : decide (xi < xk)
          all_goals
            rw [hb] at CL
            go_quiet ((go_at_call 10; with_reducible exact q_same CL.out))
            go_wp2
            go_roundg (bs.length - (k + 1))
            case measure => have := HM.out; omega
            case rel => exact ⟨k + 1, _, by go_num, by omega, rfl, Lib.hid (by rw [HQ.out, World.drewN_drewN])⟩
        · have hkk : ¬ ((k : Int) < bs.length) := by omega
          go_wp2
          go_roundg (bs.length - (i + 1))
          case measure => have := HN.out; omega
          case rel => exact ⟨i + 1, q2, by go_num, by omega, rfl, HQ⟩
    · have hki : ¬ ((i : Int) < bs.length) := by omega
      go_wp2
      go_ret
      exact ⟨rfl, B3.out.trans ((by rw [HW.out]; exact below_drewN (Below.refl _ _) q : Below W3.heap.size W3 wo).mono B3.out.size)⟩
end Go.Proofs.Ytmeilhjloeghhaa
namespace Go.Proofs.Ytmeilhjloeghhaa
open Go.RowKit Go.ChangeShapes Go.WideShapes Go.ChangeAt

theorem cellsF : Try.prog.cellsOf 22 = 1 := by kernel_rfl
theorem Try.trod_float {H : Type} {enc : TypeId × Value → H} {P : Program} {w : World} {base : Nat} {sp : Nat → Bool} {held : Bool} {fuel : Nat} {t : TypeId} {k : FloatKind} {cs : List Value} {x : DataW H × List MemPlace} (ht : P.underlying t = some (.float k)) (h : DataW.trod enc P w base sp held fuel t cs = some x) :
    ∃ n, cs = [.float k n] ∧ x = (.lit (.float k n), []) ∧ (Lit.float k n).wf = true := by
  cases fuel with
  | zero => simp [DataW.trod] at h
  | succ n =>
    unfold DataW.trod at h
    rw [ht] at h
    split at h <;> simp_all
/-- a slice of floats that comes in -/
theorem open_fs {H : Type} {enc : TypeId × Value → H} {w : World} {sp : Nat → Bool} {held : Bool} {base : Nat} {v : Value} {d : DataW H} {ps : List MemPlace}
    (hval : Value.okWide Try.prog w .any base 25 v) (h0 : DataW.Trod enc Try.prog w 0 sp held 25 v d ps) : ∃ zs : List Nat, FlAt w v zs := by
  obtain ⟨a0, l0, c0, rfl⟩ := okWide_slice Try.underlying25 hval
  obtain ⟨fuel, h⟩ := Joins.field_of_Trod h0 rfl
  obtain ⟨n, xs, hS, hE⟩ := open_sl (k := 1) Try.underlying25 cellsF h
  have hx : ∀ i, i < n → ∃ z : Nat, xs[i]? = some (.float .f64 z) ∧ (Lit.float .f64 z).wf = true := fun i hi => by
    obtain ⟨m, y, hy⟩ := hE i hi
    obtain ⟨z, hz, _, hwf⟩ := Try.trod_float Try.underlying22 hy
    refine ⟨z, ?_, hwf⟩
    have := congrArg (·[0]?) hz
    simpa [List.getElem?_take, List.getElem?_drop] using this
  obtain ⟨f, hf⟩ := Deep.choose_lt hx
  have hl := hS.len
  have e : xs = ((List.range n).map f).map (Value.float .f64) := by
    apply List.ext_getElem?
    intro i
    by_cases hi : i < n
    · rw [(hf i hi).1]; simp [hi]
    · rw [List.getElem?_eq_none (by omega), List.getElem?_eq_none (by simp; omega)]
  refine ⟨(List.range n).map f, ?_, fun z hz => ?_⟩
  · rw [← e]
    simpa using hS
  · obtain ⟨i, hi, rfl⟩ := List.mem_map.1 hz
    simpa [Lit.wf] using (hf i (by simpa using hi)).2
theorem cellsB : Try.prog.cellsOf 4 = 1 := by kernel_rfl
theorem open_bools {H : Type} {enc : TypeId × Value → H} {w : World} {sp : Nat → Bool} {held : Bool} {base : Nat} {v : Value} {d : DataW H} {ps : List MemPlace}
    (hval : Value.okWide Try.prog w .any base 36 v) (h0 : DataW.Trod enc Try.prog w 0 sp held 36 v d ps) : ∃ zs : List Bool, BoAt w v zs := by
  obtain ⟨a0, l0, c0, rfl⟩ := okWide_slice Try.underlying36 hval
  obtain ⟨fuel, h⟩ := Joins.field_of_Trod h0 rfl
  obtain ⟨n, xs, hS, hE⟩ := open_sl (k := 1) Try.underlying36 cellsB h
  have hx : ∀ i, i < n → ∃ z : Bool, xs[i]? = some (.bool z) := fun i hi => by
    obtain ⟨m, y, hy⟩ := hE i hi
    obtain ⟨z, hz, _⟩ := DataW.trod_bool Try.underlying4 hy
    refine ⟨z, ?_⟩
    have := congrArg (·[0]?) hz
    simpa [List.getElem?_take, List.getElem?_drop] using this
  obtain ⟨f, hf⟩ := Deep.choose_lt hx
  have hl := hS.len
  have e : xs = ((List.range n).map f).map Value.bool := by
    apply List.ext_getElem?
    intro i
    by_cases hi : i < n
    · rw [hf i hi]; simp [hi]
    · rw [List.getElem?_eq_none (by omega), List.getElem?_eq_none (by simp; omega)]
  refine ⟨(List.range n).map f, ?_⟩
  unfold BoAt
  rw [← e]
  simpa using hS
end Go.Proofs.Ytmeilhjloeghhaa
