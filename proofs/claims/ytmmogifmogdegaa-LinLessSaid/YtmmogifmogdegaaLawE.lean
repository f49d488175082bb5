/-
  LinLess, walked.
-/
import Derived.Test.YtmmogifmogdegaaLawL
namespace Go.Proofs.Ytmmogifmogdegaa
open Go.RowKit

/-- the domains, each met with the other one's -/
def smallAt (ds ot : Ds) (j : Nat) : List Rg := if j < ot.length then meetL (ds.getD j []) (ot.getD j []) else ds.getD j []
def smallD (ds ot : Ds) (k : Nat) : Ds := (List.range k).map (smallAt ds ot)
theorem smallD_len (ds ot : Ds) (k : Nat) : (smallD ds ot k).length = k := by simp [smallD]
theorem smallD_step (ds ot : Ds) (k : Nat) : smallD ds ot (k + 1) = smallD ds ot k ++ [smallAt ds ot k] := by simp [smallD, List.range_succ]
theorem smallD_get (ds ot : Ds) (k j : Nat) : (smallD ds ot k).getD j [] = if j < k then smallAt ds ot j else [] := by
  rw [List.getD_eq_getElem?_getD]
  by_cases h : j < k
  · rw [if_pos h, List.getElem?_eq_getElem (by rw [smallD_len]; exact h)]; simp [smallD]
  · rw [if_neg h, List.getElem?_eq_none (by rw [smallD_len]; omega)]; rfl
theorem small_sub (ds ot : Ds) (j : Nat) : SubD ((smallD ds ot ds.length).getD j []) (ds.getD j []) := fun x hx => by
  rw [smallD_get] at hx
  by_cases h : j < ds.length
  · rw [if_pos h] at hx
    unfold smallAt at hx
    split at hx
    · rw [memL_norm] at hx ⊢
      unfold meetL at hx
      rw [canon_mem] at hx
      simp only [Bool.and_eq_true] at hx ⊢
      exact ⟨hx.1, hx.2.2.1⟩
    · exact hx
  · rw [if_neg h] at hx
    have : norm ([] : List Rg) = [] := norm_of_normal (show Normal [] from trivial)
    rw [this, memL_nil] at hx; cases hx
theorem small_short (ds ot : Ds) (hd : ∀ d ∈ ds, d.length ≤ 10) (k : Nat) : ∀ d ∈ smallD ds ot k, d.length ≤ 201 := fun d hdm => by
  obtain ⟨j, _, rfl⟩ := List.mem_map.1 hdm
  unfold smallAt
  split
  · unfold meetL; exact canon_len _
  · rw [List.getD_eq_getElem?_getD]
    cases h : ds[j]? with
    | none => simp
    | some e => have := hd e (List.mem_of_getElem? h); simp; omega
theorem minus_none (a b : List Rg) (h : ∀ x, memL a x = true → memL b x = true) : minusL a b = [] := by
  refine (is_canon (show Normal [] from trivial) (fun n _ _ => ?_)).symm
  rw [memL_nil]
  cases ha : memL a n with
  | false => rfl
  | true => rw [h n ha]; rfl
set_option maxRecDepth 100000 in
set_option maxHeartbeats 6400000 in
theorem linLess_bad1 (va vb vds vot : Value) (rel C : Int) (coef vars : List Int) (ds ot : Ds) (w : World) (h0 : IsAt w va coef) (h1 : IsAt w vb vars) (hd : DsAt w vds ds) (ho : DsAt w vot ot) (hm : manyB coef vars ds = true) :
    Calls Try.prog 7 #[.agg #[va, vb, .int .i64 rel, .int .i64 C], vds, vot] w fun e w' => e = .returned (.bool true) ∧ Below w.heap.size w w' := by
  have HZ0 : Hid (Below w.heap.size w (w.alloc (.cells #[va, vb, .int .i64 rel, .int .i64 C] 24))) := (Below.refl _ _).alloc (Nat.le_refl _) _
  have HB0 : Hid (BoxL (w.alloc (.cells #[va, vb, .int .i64 rel, .int .i64 C] 24)) w.heap.size [va, vb, .int .i64 rel, .int .i64 C]) := BoxL.mk' _ #[va, vb, .int .i64 rel, .int .i64 C] _
  have CM := Lib.hid (fun W (h : Below w.heap.size w W) => lawMany_c va vb vds rel C coef vars ds W (h0.below h) (h1.below h) (hd.below h))
  have CM2 := Lib.hid (fun W (h : Below w.heap.size w W) => lawMany_c va vb vot rel C coef vars ot W (h0.below h) (h1.below h) (ho.below h))
  have CK1 : Hid (∀ W, Calls Try.prog 8 #[.agg #[.slice none 0 0, .slice none 0 0, .int .i64 3, .int .i64 1099511627777], .int .i64 0] W fun e w' => e = .returned (.int .i64 150) ∧ Below W.heap.size W w') := fun W => linCheck_const 3 1099511627777 0 W
  have H0 := Lib.hid h0
  have H1 := Lib.hid h1
  have HD := Lib.hid hd
  have HO := Lib.hid ho
  obtain ⟨a0, c0, rfl, _⟩ := IsAt.shape h0
  obtain ⟨a1, c1, rfl, _⟩ := IsAt.shape h1
  obtain ⟨a2, c2, rfl, _⟩ := hd.shape
  obtain ⟨a3, c3, rfl, _⟩ := ho.shape
  clear h0 h1 hd ho
  have CM1 := Lib.hid (CM.out _ HZ0.out)
  rw [hm] at CM1
  clear hm CM
  go_enter Try.func7, Try.ntmps7
  go_wp2_with (first
    | (go_at_call 13; (with_reducible refine (CM1.out).mono ?_); rintro e W1 ⟨rfl, bb⟩; have B1 := Lib.hid (HZ0.out.trans (bb.mono HZ0.out.size)); have L1 := Lib.hid (HB0.out.below bb (by simp)); obtain ⟨l01, _⟩ := L1.out.get 0 rfl; obtain ⟨l11, _⟩ := L1.out.get 1 rfl; obtain ⟨l21, _⟩ := L1.out.get 2 rfl; obtain ⟨l31, _⟩ := L1.out.get 3 rfl; clear bb)
    | (go_at_call 8; (with_reducible refine (CK1.out _).mono ?_); rintro e W9 ⟨rfl, bb⟩; have B9 := Lib.hid (B1.out.trans (bb.mono B1.out.size)); clear bb))
  go_ret
  exact ⟨rfl, B9.out⟩
set_option maxRecDepth 100000 in
set_option maxHeartbeats 6400000 in
theorem linLess_bad2 (va vb vds vot : Value) (rel C : Int) (coef vars : List Int) (ds ot : Ds) (w : World) (h0 : IsAt w va coef) (h1 : IsAt w vb vars) (hd : DsAt w vds ds) (ho : DsAt w vot ot) (hm : manyB coef vars ds = false) (hm2 : manyB coef vars ot = true) :
    Calls Try.prog 7 #[.agg #[va, vb, .int .i64 rel, .int .i64 C], vds, vot] w fun e w' => e = .returned (.bool true) ∧ Below w.heap.size w w' := by
  have HZ0 : Hid (Below w.heap.size w (w.alloc (.cells #[va, vb, .int .i64 rel, .int .i64 C] 24))) := (Below.refl _ _).alloc (Nat.le_refl _) _
  have HB0 : Hid (BoxL (w.alloc (.cells #[va, vb, .int .i64 rel, .int .i64 C] 24)) w.heap.size [va, vb, .int .i64 rel, .int .i64 C]) := BoxL.mk' _ #[va, vb, .int .i64 rel, .int .i64 C] _
  have CM := Lib.hid (fun W (h : Below w.heap.size w W) => lawMany_c va vb vds rel C coef vars ds W (h0.below h) (h1.below h) (hd.below h))
  have CM2 := Lib.hid (fun W (h : Below w.heap.size w W) => lawMany_c va vb vot rel C coef vars ot W (h0.below h) (h1.below h) (ho.below h))
  have CK1 : Hid (∀ W, Calls Try.prog 8 #[.agg #[.slice none 0 0, .slice none 0 0, .int .i64 3, .int .i64 1099511627777], .int .i64 0] W fun e w' => e = .returned (.int .i64 150) ∧ Below W.heap.size W w') := fun W => linCheck_const 3 1099511627777 0 W
  have H0 := Lib.hid h0
  have H1 := Lib.hid h1
  have HD := Lib.hid hd
  have HO := Lib.hid ho
  obtain ⟨a0, c0, rfl, _⟩ := IsAt.shape h0
  obtain ⟨a1, c1, rfl, _⟩ := IsAt.shape h1
  obtain ⟨a2, c2, rfl, _⟩ := hd.shape
  obtain ⟨a3, c3, rfl, _⟩ := ho.shape
  clear h0 h1 hd ho
  have CM1 := Lib.hid (CM.out _ HZ0.out)
  rw [hm] at CM1
  have CM3 := Lib.hid CM2.out
  rw [hm2] at CM3
  clear hm hm2 CM CM2
  go_enter Try.func7, Try.ntmps7
  go_wp2_with (first
    | (go_at_call 13; (with_reducible refine (CM1.out).mono ?_); rintro e W1 ⟨rfl, bb⟩; have B1 := Lib.hid (HZ0.out.trans (bb.mono HZ0.out.size)); have L1 := Lib.hid (HB0.out.below bb (by simp)); obtain ⟨l01, _⟩ := L1.out.get 0 rfl; obtain ⟨l11, _⟩ := L1.out.get 1 rfl; obtain ⟨l21, _⟩ := L1.out.get 2 rfl; obtain ⟨l31, _⟩ := L1.out.get 3 rfl; clear bb)
    | (go_at_call 13; (with_reducible refine (CM3.out _ B1.out).mono ?_); rintro e W2 ⟨rfl, bb⟩; have B2 := Lib.hid (B1.out.trans (bb.mono B1.out.size)); have L2 := Lib.hid (L1.out.below bb (by have := L1.out.lt (by simp); omega)); obtain ⟨l02, _⟩ := L2.out.get 0 rfl; obtain ⟨l12, _⟩ := L2.out.get 1 rfl; obtain ⟨l22, _⟩ := L2.out.get 2 rfl; obtain ⟨l32, _⟩ := L2.out.get 3 rfl; clear bb)
    | (go_at_call 8; (with_reducible refine (CK1.out _).mono ?_); rintro e W9 ⟨rfl, bb⟩; have B9 := Lib.hid (B2.out.trans (bb.mono B2.out.size)); clear bb))
  go_ret
  exact ⟨rfl, B9.out⟩
set_option maxRecDepth 100000 in
set_option maxHeartbeats 6400000 in
theorem linLess_bad3 (va vb vds vot : Value) (rel C : Int) (coef vars : List Int) (ds ot : Ds) (w : World) (h0 : IsAt w va coef) (h1 : IsAt w vb vars) (hd : DsAt w vds ds) (ho : DsAt w vot ot) (hm : manyB coef vars ds = false) (hm2 : manyB coef vars ot = false) (hck : ¬ linChk coef vars rel C ds.length = 0) :
    Calls Try.prog 7 #[.agg #[va, vb, .int .i64 rel, .int .i64 C], vds, vot] w fun e w' => e = .returned (.bool true) ∧ Below w.heap.size w w' := by
  have HZ0 : Hid (Below w.heap.size w (w.alloc (.cells #[va, vb, .int .i64 rel, .int .i64 C] 24))) := (Below.refl _ _).alloc (Nat.le_refl _) _
  have HB0 : Hid (BoxL (w.alloc (.cells #[va, vb, .int .i64 rel, .int .i64 C] 24)) w.heap.size [va, vb, .int .i64 rel, .int .i64 C]) := BoxL.mk' _ #[va, vb, .int .i64 rel, .int .i64 C] _
  have CM := Lib.hid (fun W (h : Below w.heap.size w W) => lawMany_c va vb vds rel C coef vars ds W (h0.below h) (h1.below h) (hd.below h))
  have CM2 := Lib.hid (fun W (h : Below w.heap.size w W) => lawMany_c va vb vot rel C coef vars ot W (h0.below h) (h1.below h) (ho.below h))
  have CK1 : Hid (∀ W, Calls Try.prog 8 #[.agg #[.slice none 0 0, .slice none 0 0, .int .i64 3, .int .i64 1099511627777], .int .i64 0] W fun e w' => e = .returned (.int .i64 150) ∧ Below W.heap.size W w') := fun W => linCheck_const 3 1099511627777 0 W
  have H0 := Lib.hid h0
  have H1 := Lib.hid h1
  have HD := Lib.hid hd
  have HO := Lib.hid ho
  obtain ⟨a0, c0, rfl, _⟩ := IsAt.shape h0
  obtain ⟨a1, c1, rfl, _⟩ := IsAt.shape h1
  obtain ⟨a2, c2, rfl, _⟩ := hd.shape
  obtain ⟨a3, c3, rfl, _⟩ := ho.shape
  clear h0 h1 hd ho
  obtain ⟨g1, g2, g3, g4⟩ := many_ok hm
  have CC : Hid (∀ W, Below w.heap.size w W → Calls Try.prog 9 #[.agg #[.slice a0 coef.length c0, .slice a1 vars.length c1, .int .i64 rel, .int .i64 C], .int .i64 ds.length] W fun e w' => e = .returned (.int .i64 (linChk coef vars rel C ds.length)) ∧ Below W.heap.size W w') :=
    fun W h => refCheck_any _ _ rel C _ coef vars W (H0.out.below h) (H1.out.below h) (by omega) (by omega)
  have CM1 := Lib.hid (CM.out _ HZ0.out)
  rw [hm] at CM1
  have CM3 := Lib.hid CM2.out
  rw [hm2] at CM3
  have hne : (linChk coef vars rel C ds.length != 0) = true := by simpa using hck
  clear hck hm hm2 CM CM2 g4
  generalize linChk coef vars rel C ds.length = ck at *
  go_enter Try.func7, Try.ntmps7
  go_wp2_with (first
    | (go_at_call 13; (with_reducible refine (CM1.out).mono ?_); rintro e W1 ⟨rfl, bb⟩; have B1 := Lib.hid (HZ0.out.trans (bb.mono HZ0.out.size)); have L1 := Lib.hid (HB0.out.below bb (by simp)); obtain ⟨l01, _⟩ := L1.out.get 0 rfl; obtain ⟨l11, _⟩ := L1.out.get 1 rfl; obtain ⟨l21, _⟩ := L1.out.get 2 rfl; obtain ⟨l31, _⟩ := L1.out.get 3 rfl; clear bb)
    | (go_at_call 13; (with_reducible refine (CM3.out _ B1.out).mono ?_); rintro e W2 ⟨rfl, bb⟩; have B2 := Lib.hid (B1.out.trans (bb.mono B1.out.size)); have L2 := Lib.hid (L1.out.below bb (by have := L1.out.lt (by simp); omega)); obtain ⟨l02, _⟩ := L2.out.get 0 rfl; obtain ⟨l12, _⟩ := L2.out.get 1 rfl; obtain ⟨l22, _⟩ := L2.out.get 2 rfl; obtain ⟨l32, _⟩ := L2.out.get 3 rfl; clear bb)
    | (go_at_call 9; (with_reducible refine (CC.out _ B2.out).mono ?_); rintro e W3 ⟨rfl, bb⟩; have B3 := Lib.hid (B2.out.trans (bb.mono B2.out.size)); have L3 := Lib.hid (L2.out.below bb (by have := L2.out.lt (by simp); omega)); obtain ⟨l03, _⟩ := L3.out.get 0 rfl; obtain ⟨l13, _⟩ := L3.out.get 1 rfl; obtain ⟨l23, _⟩ := L3.out.get 2 rfl; obtain ⟨l33, _⟩ := L3.out.get 3 rfl; clear bb)
    | (go_at_call 8; (with_reducible refine (CK1.out _).mono ?_); rintro e W9 ⟨rfl, bb⟩; have B9 := Lib.hid (B3.out.trans (bb.mono B3.out.size)); clear bb))
  go_ret
  exact ⟨rfl, B9.out⟩
set_option maxRecDepth 100000 in
set_option maxHeartbeats 6400000 in
theorem linLess_none1 (va vb vds vot : Value) (rel C : Int) (coef vars : List Int) (ds ot : Ds) (w : World) (h0 : IsAt w va coef) (h1 : IsAt w vb vars) (hd : DsAt w vds ds) (ho : DsAt w vot ot) (hm : manyB coef vars ds = false) (hm2 : manyB coef vars ot = false) (hck : linChk coef vars rel C ds.length = 0) (r1 : Ds) (hres1 : onceL rel C ds (coef.zip vars) = some r1) (hres : onceL rel C (smallD ds ot ds.length) (coef.zip vars) = none) :
    Calls Try.prog 7 #[.agg #[va, vb, .int .i64 rel, .int .i64 C], vds, vot] w fun e w' => e = .returned (.bool true) ∧ Below w.heap.size w w' := by
  obtain ⟨i0, hi, hz0, hz1, hz2⟩ := info_parts Try.infoRgs
  have HZ0 : Hid (Below w.heap.size w (w.alloc (.cells #[va, vb, .int .i64 rel, .int .i64 C] 24))) := (Below.refl _ _).alloc (Nat.le_refl _) _
  have HB0 : Hid (BoxL (w.alloc (.cells #[va, vb, .int .i64 rel, .int .i64 C] 24)) w.heap.size [va, vb, .int .i64 rel, .int .i64 C]) := BoxL.mk' _ #[va, vb, .int .i64 rel, .int .i64 C] _
  have CM := Lib.hid (fun W (h : Below w.heap.size w W) => lawMany_c va vb vds rel C coef vars ds W (h0.below h) (h1.below h) (hd.below h))
  have CM2 := Lib.hid (fun W (h : Below w.heap.size w W) => lawMany_c va vb vot rel C coef vars ot W (h0.below h) (h1.below h) (ho.below h))
  have CK1 : Hid (∀ W, Calls Try.prog 8 #[.agg #[.slice none 0 0, .slice none 0 0, .int .i64 3, .int .i64 1099511627777], .int .i64 0] W fun e w' => e = .returned (.int .i64 150) ∧ Below W.heap.size W w') := fun W => linCheck_const 3 1099511627777 0 W
  have H0 := Lib.hid h0
  have H1 := Lib.hid h1
  have HD := Lib.hid hd
  have HO := Lib.hid ho
  obtain ⟨a0, c0, rfl, _⟩ := IsAt.shape h0
  obtain ⟨a1, c1, rfl, _⟩ := IsAt.shape h1
  obtain ⟨a2, c2, rfl, _⟩ := hd.shape
  obtain ⟨a3, c3, rfl, _⟩ := ho.shape
  clear h0 h1 hd ho
  obtain ⟨g1, g2, g3, g4⟩ := many_ok hm
  have HOT := Lib.hid (many_ok hm2).2.2.2
  have hol := (many_ok hm2).1
  have CC : Hid (∀ W, Below w.heap.size w W → Calls Try.prog 9 #[.agg #[.slice a0 coef.length c0, .slice a1 vars.length c1, .int .i64 rel, .int .i64 C], .int .i64 ds.length] W fun e w' => e = .returned (.int .i64 (linChk coef vars rel C ds.length)) ∧ Below W.heap.size W w') :=
    fun W h => refCheck_any _ _ rel C _ coef vars W (H0.out.below h) (H1.out.below h) (by omega) (by omega)
  have CM1 := Lib.hid (CM.out _ HZ0.out)
  rw [hm] at CM1
  have CM3 := Lib.hid CM2.out
  rw [hm2] at CM3
  rw [hck] at CC
  obtain ⟨hg, hr, hC, hnz, hnd⟩ := chk_good hck (fun d hd => by have := g4 d hd; omega)
  have hg2 : GoodL coef vars (smallD ds ot ds.length) := ⟨hg.len, hg.le16, hg.coefs, fun v hv => by rw [smallD_len]; exact hg.vars v hv, fun d hd => by have := small_short ds ot g4 ds.length d hd; omega⟩
  have HDS := Lib.hid g4
  have CO := Lib.hid (fun W (h : Below w.heap.size w W) => once_c _ _ _ rel C coef vars ds W (H0.out.below h) (H1.out.below h) (HD.out.below h) hg hr hC hnz (by omega))
  have CO2 := Lib.hid (fun vs W (h : Below w.heap.size w W) (hs : DsAt W vs (smallD ds ot ds.length)) => once_c _ _ vs rel C coef vars _ W (H0.out.below h) (H1.out.below h) hs hg2 hr hC hnz (by rw [smallD_len]; omega))
  have CR2 := Lib.hid (fun vs W (h : Below w.heap.size w W) (hs : DsAt W vs (smallD ds ot ds.length)) => refOnce_c _ _ vs rel C coef vars _ W (H0.out.below h) (H1.out.below h) hs hg2 hr hC hnz (by rw [smallD_len]; omega) hnd)
  have HSUB := Lib.hid (fun r' h => once_sub rel C (smallD ds ot ds.length) ds (coef.zip vars) (smallD_len ds ot ds.length) (fun j => small_sub ds ot j) r' h)
  clear hck hm hm2 CM CM2 hg hg2 hr hC hnz hnd g4
  generalize hps : coef.zip vars = ps at *
  clear hps
  have HRL1 : Hid (r1.length = ds.length) := once_len _ _ _ _ _ hres1
  have CO1 : Hid (∀ W, Below w.heap.size w W → Calls Try.prog 10 #[.agg #[.slice a0 coef.length c0, .slice a1 vars.length c1, .int .i64 rel, .int .i64 C], .slice a2 ds.length c2] W fun e w' => ∃ ao cap, e = .returned (.tuple #[.slice ao ds.length cap, .bool true]) ∧ DsAt w' (.slice ao ds.length cap) r1 ∧ Below W.heap.size W w') := fun W h => by
    have := CO.out W h
    rw [hres1] at this
    exact this.mono fun _ _ h => by
      have h2 := h.is
      rw [HRL1.out] at h2
      exact h2
  have CO3 : Hid (∀ vs W, Below w.heap.size w W → DsAt W vs (smallD ds ot ds.length) → Calls Try.prog 10 #[.agg #[.slice a0 coef.length c0, .slice a1 vars.length c1, .int .i64 rel, .int .i64 C], vs] W fun e w' => e = .returned (.tuple #[.slice none 0 0, .bool false]) ∧ Below W.heap.size W w') := fun vs W h hs => by
    have := CO2.out vs W h hs
    rw [hres] at this
    exact this.mono fun _ _ h => h.no
  have CR3 : Hid (∀ vs W, Below w.heap.size w W → DsAt W vs (smallD ds ot ds.length) → Calls Try.prog 14 #[.agg #[.slice a0 coef.length c0, .slice a1 vars.length c1, .int .i64 rel, .int .i64 C], vs] W fun e w' => e = .returned (.tuple #[.slice none 0 0, .bool false]) ∧ Below W.heap.size W w') := fun vs W h hs => by
    have := CR2.out vs W h hs
    rw [hres] at this
    exact this.mono fun _ _ h => h.no
  clear CO CO2 CR2 HSUB hres hres1 CK1
  go_enter Try.func7, Try.ntmps7
  go_wp2_with (first
    | (go_at_call 13; (with_reducible refine (CM1.out).mono ?_); rintro e W1 ⟨rfl, bb⟩; have B1 := Lib.hid (HZ0.out.trans (bb.mono HZ0.out.size)); have L1 := Lib.hid (HB0.out.below bb (by simp)); obtain ⟨l01, _⟩ := L1.out.get 0 rfl; obtain ⟨l11, _⟩ := L1.out.get 1 rfl; obtain ⟨l21, _⟩ := L1.out.get 2 rfl; obtain ⟨l31, _⟩ := L1.out.get 3 rfl; clear bb)
    | (go_at_call 13; (with_reducible refine (CM3.out _ B1.out).mono ?_); rintro e W2 ⟨rfl, bb⟩; have B2 := Lib.hid (B1.out.trans (bb.mono B1.out.size)); have L2 := Lib.hid (L1.out.below bb (by have := L1.out.lt (by simp); omega)); obtain ⟨l02, _⟩ := L2.out.get 0 rfl; obtain ⟨l12, _⟩ := L2.out.get 1 rfl; obtain ⟨l22, _⟩ := L2.out.get 2 rfl; obtain ⟨l32, _⟩ := L2.out.get 3 rfl; clear bb)
    | (go_at_call 9; (with_reducible refine (CC.out _ B2.out).mono ?_); rintro e W3 ⟨rfl, bb⟩; have B3 := Lib.hid (B2.out.trans (bb.mono B2.out.size)); have L3 := Lib.hid (L2.out.below bb (by have := L2.out.lt (by simp); omega)); obtain ⟨l03, _⟩ := L3.out.get 0 rfl; obtain ⟨l13, _⟩ := L3.out.get 1 rfl; obtain ⟨l23, _⟩ := L3.out.get 2 rfl; obtain ⟨l33, _⟩ := L3.out.get 3 rfl; clear bb))
  have hs3 := B3.out.size
  have hl3 := L3.out.lt (by simp)
  clear l01 l11 l21 l31 l02 l12 l22 l32 l03 l13 l23 l33 L1 L2 B1 B2 CM1 CM3 CC HZ0 HB0
  go_loopw [7, 8] (fun o s wr => ∃ k : Nat, ∃ us : List Value, k ≤ ds.length ∧ s = .int .i64 k ∧ Hid (DsApp wr W3.heap.size o (smallD ds ot k) us) ∧ Hid (Below W3.heap.size W3 wr)) (fun _ s _ => ds.length - (intOf s).toNat)
  case atStart => exact ⟨0, [], by omega, rfl, Lib.hid (DsApp.nil (World.ownsRow_made W3 #[] 0 (Nat.le_refl _) (by decide) rfl)), Lib.hid ((Below.refl _ _).alloc (Nat.le_refl _) _)⟩
  case round =>
    obtain ⟨k, us, hk, rfl, HA, HB⟩ := hrel
    have hle := HB.out.size
    by_cases hlt : k < ds.length
    · obtain ⟨b, off, ao, cap, rfl, q1, q2, _, hc, hrg⟩ := HD.out.get k hlt
      have j1 : (k : Int) < ds.length := by omega
      have hBw : Hid (Below w.heap.size w wr) := B3.out.trans (HB.out.mono hs3)
      rw [← hBw.out.cell (p := ⟨b, off + k, none⟩) q2] at hc
      have hdl : ds[k].length ≤ 10 := HDS.out _ (List.getElem_mem hlt)
      have HST := Lib.hid (smallD_step ds ot k)
      have HSL := Lib.hid (smallD_len ds ot k)
      have hgd := getD_at ds k hlt []
      have HRG := Lib.hid hrg
      have HSA : Hid (smallAt ds ot k = if k < ot.length then meetL ds[k] (ot.getD k []) else ds[k]) := by show _ = _; unfold smallAt; rw [hgd]
      clear hrg hgd
      obtain ⟨oa, oc, rfl, _⟩ := HA.out.own.at.shape
      generalize smallAt ds ot k = SA at *
      generalize ds[k] = d at *
      by_cases hot : k < ot.length
      · obtain ⟨b4, o4, a4, c4, rfl, q3, q4, _, hc4, hr4⟩ := HO.out.get k hot
        have j2 : (k : Int) < ot.length := by omega
        have hgo := getD_at ot k hot []
        have hel : ot[k].length ≤ 10 := HOT.out _ (List.getElem_mem hot)
        rw [hgo, if_pos hot] at HSA
        rw [← hBw.out.cell (p := ⟨b4, o4 + k, none⟩) q4] at hc4
        have CME := Lib.hid (refMeet_n _ _ d ot[k] wr (HRG.out.below hBw.out) (hr4.below hBw.out) (by omega) (by omega))
        rw [← HSA.out] at CME
        clear hr4 hgo
        generalize ot[k] = f at *
        rw [HSL.out]
        go_wp2_with (first
          | (go_at_call 19; (with_reducible refine CME.out.mono ?_); rintro e W5 ⟨a5, c5, rfl, r5, b5, n5⟩; have HA5 := Lib.hid (HA.out.below b5); have HAP := Lib.hid (apart_made HA.out.2.1 n5); have R5 := Lib.hid r5; have Q5 := Lib.hid (HB.out.trans (b5.mono hle)); have hs5 := b5.size; clear b5 r5 n5)
          | (at_builtin; refine wpList_append1L rfl (.tmp 56) (.tmp 58) 30 rfl W3.heap.size 29 i0 (.slice none 0 0) 24 Try.underlying30 hi hz0 hz1 hz2 rfl _ _ _ rfl (by have := HA5.out.2.1; rw [HSL.out] at this; exact this) _ rfl rfl (by omega) (by omega) ?_; intro g5 cap5 w5 ow bw kw gw))
        refine ⟨⟨k + 1, us ++ [.slice a5 SA.length c5], by omega, by go_num, ?_, Lib.hid (Q5.out.trans bw)⟩, by simp [intOf]; omega⟩
        have hA5 := HA5.out
        rw [HSL.out] at hA5
        have := DsApp.push (ds := smallD ds ot k) (g := g5) (cap := cap5) HA5.out R5.out (fun _ => by have := HAP.out; rw [HSL.out] at this ⊢; exact this) (by rw [HSL.out]; exact ow) (by rw [HSL.out]; exact kw) (by rw [HSL.out]; exact gw)
        rw [HSL.out, ← HST.out] at this
        exact Lib.hid this
      · have hotd : ¬ (k : Int) < ot.length := by omega
        rw [if_neg hot] at HSA
        have R5 := Lib.hid (HRG.out.below hBw.out)
        have HAP : Hid (d ≠ [] → Apart (.slice ao d.length cap) (.slice oa (smallD ds ot k).length oc)) := fun hne => apart_low HA.out.2.1 (fun b hb => by have := HRG.out.blk hne b hb; have := B3.out.size; omega)
        obtain rfl : SA = d := HSA.out
        rw [HSL.out]
        go_wp2_with (at_builtin; refine wpList_append1L rfl (.tmp 56) (.tmp 58) 30 rfl W3.heap.size 29 i0 (.slice none 0 0) 24 Try.underlying30 hi hz0 hz1 hz2 rfl _ _ _ rfl (by have := HA.out.2.1; rw [HSL.out] at this; exact this) _ rfl rfl (by omega) (by omega) ?_; intro g5 cap5 w5 ow bw kw gw)
        refine ⟨⟨k + 1, us ++ [.slice ao SA.length cap], by omega, by go_num, ?_, Lib.hid (HB.out.trans bw)⟩, by simp [intOf]; omega⟩
        have := DsApp.push (ds := smallD ds ot k) (g := g5) (cap := cap5) HA.out R5.out HAP.out (by rw [HSL.out]; exact ow) (by rw [HSL.out]; exact kw) (by rw [HSL.out]; exact gw)
        rw [HSL.out, ← HST.out] at this
        exact Lib.hid this
    · obtain rfl : k = ds.length := by omega
      have hSL := smallD_len ds ot ds.length
      have HSL := Lib.hid hSL
      have HAT := Lib.hid HA.out.own.at
      obtain ⟨oa, oc, rfl, _⟩ := HAT.out.shape
      have B4 := Lib.hid (B3.out.trans (HB.out.mono hs3))
      have L4 := Lib.hid (L3.out.below HB.out hl3)
      obtain ⟨l04, _⟩ := L4.out.get 0 rfl
      obtain ⟨l14, _⟩ := L4.out.get 1 rfl
      obtain ⟨l24, _⟩ := L4.out.get 2 rfl
      obtain ⟨l34, _⟩ := L4.out.get 3 rfl
      have hl4 := L4.out.lt (by simp)
      clear HA hSL
      go_wp2_with (first
        | (go_at_call 10; (with_reducible refine (CO1.out _ B4.out).mono ?_); rintro e W6 ⟨a6, c6, rfl, r6, bb⟩; have D6 := Lib.hid r6; have B6 := Lib.hid (B4.out.trans (bb.mono B4.out.size)); have L6 := Lib.hid (L4.out.below bb hl4); have A6 := Lib.hid (HAT.out.below bb); obtain ⟨l06, _⟩ := L6.out.get 0 rfl; obtain ⟨l16, _⟩ := L6.out.get 1 rfl; obtain ⟨l26, _⟩ := L6.out.get 2 rfl; obtain ⟨l36, _⟩ := L6.out.get 3 rfl; have hl6 := L6.out.lt (by simp); clear bb r6)
        | (go_at_call 10; (with_reducible refine (CO3.out _ _ B6.out A6.out).mono ?_); rintro e W7 ⟨rfl, bb⟩; have B7 := Lib.hid (B6.out.trans (bb.mono B6.out.size)); have L7 := Lib.hid (L6.out.below bb hl6); have A7 := Lib.hid (A6.out.below bb); obtain ⟨l07, _⟩ := L7.out.get 0 rfl; obtain ⟨l17, _⟩ := L7.out.get 1 rfl; obtain ⟨l27, _⟩ := L7.out.get 2 rfl; obtain ⟨l37, _⟩ := L7.out.get 3 rfl; have hl7 := L7.out.lt (by simp); clear bb)
        | (go_at_call 14; (with_reducible refine (CR3.out _ _ B7.out A7.out).mono ?_); rintro e W8 ⟨rfl, bb⟩; have B8 := Lib.hid (B7.out.trans (bb.mono B7.out.size)); clear bb))
      go_ret
      exact ⟨rfl, B8.out⟩
set_option maxRecDepth 100000 in
set_option maxHeartbeats 6400000 in
theorem linLess_none2 (va vb vds vot : Value) (rel C : Int) (coef vars : List Int) (ds ot : Ds) (w : World) (h0 : IsAt w va coef) (h1 : IsAt w vb vars) (hd : DsAt w vds ds) (ho : DsAt w vot ot) (hm : manyB coef vars ds = false) (hm2 : manyB coef vars ot = false) (hck : linChk coef vars rel C ds.length = 0) (hres1 : onceL rel C ds (coef.zip vars) = none) (hres : onceL rel C (smallD ds ot ds.length) (coef.zip vars) = none) :
    Calls Try.prog 7 #[.agg #[va, vb, .int .i64 rel, .int .i64 C], vds, vot] w fun e w' => e = .returned (.bool true) ∧ Below w.heap.size w w' := by
  obtain ⟨i0, hi, hz0, hz1, hz2⟩ := info_parts Try.infoRgs
  have HZ0 : Hid (Below w.heap.size w (w.alloc (.cells #[va, vb, .int .i64 rel, .int .i64 C] 24))) := (Below.refl _ _).alloc (Nat.le_refl _) _
  have HB0 : Hid (BoxL (w.alloc (.cells #[va, vb, .int .i64 rel, .int .i64 C] 24)) w.heap.size [va, vb, .int .i64 rel, .int .i64 C]) := BoxL.mk' _ #[va, vb, .int .i64 rel, .int .i64 C] _
  have CM := Lib.hid (fun W (h : Below w.heap.size w W) => lawMany_c va vb vds rel C coef vars ds W (h0.below h) (h1.below h) (hd.below h))
  have CM2 := Lib.hid (fun W (h : Below w.heap.size w W) => lawMany_c va vb vot rel C coef vars ot W (h0.below h) (h1.below h) (ho.below h))
  have CK1 : Hid (∀ W, Calls Try.prog 8 #[.agg #[.slice none 0 0, .slice none 0 0, .int .i64 3, .int .i64 1099511627777], .int .i64 0] W fun e w' => e = .returned (.int .i64 150) ∧ Below W.heap.size W w') := fun W => linCheck_const 3 1099511627777 0 W
  have H0 := Lib.hid h0
  have H1 := Lib.hid h1
  have HD := Lib.hid hd
  have HO := Lib.hid ho
  obtain ⟨a0, c0, rfl, _⟩ := IsAt.shape h0
  obtain ⟨a1, c1, rfl, _⟩ := IsAt.shape h1
  obtain ⟨a2, c2, rfl, _⟩ := hd.shape
  obtain ⟨a3, c3, rfl, _⟩ := ho.shape
  clear h0 h1 hd ho
  obtain ⟨g1, g2, g3, g4⟩ := many_ok hm
  have HOT := Lib.hid (many_ok hm2).2.2.2
  have hol := (many_ok hm2).1
  have CC : Hid (∀ W, Below w.heap.size w W → Calls Try.prog 9 #[.agg #[.slice a0 coef.length c0, .slice a1 vars.length c1, .int .i64 rel, .int .i64 C], .int .i64 ds.length] W fun e w' => e = .returned (.int .i64 (linChk coef vars rel C ds.length)) ∧ Below W.heap.size W w') :=
    fun W h => refCheck_any _ _ rel C _ coef vars W (H0.out.below h) (H1.out.below h) (by omega) (by omega)
  have CM1 := Lib.hid (CM.out _ HZ0.out)
  rw [hm] at CM1
  have CM3 := Lib.hid CM2.out
  rw [hm2] at CM3
  rw [hck] at CC
  obtain ⟨hg, hr, hC, hnz, hnd⟩ := chk_good hck (fun d hd => by have := g4 d hd; omega)
  have hg2 : GoodL coef vars (smallD ds ot ds.length) := ⟨hg.len, hg.le16, hg.coefs, fun v hv => by rw [smallD_len]; exact hg.vars v hv, fun d hd => by have := small_short ds ot g4 ds.length d hd; omega⟩
  have HDS := Lib.hid g4
  have CO := Lib.hid (fun W (h : Below w.heap.size w W) => once_c _ _ _ rel C coef vars ds W (H0.out.below h) (H1.out.below h) (HD.out.below h) hg hr hC hnz (by omega))
  have CO2 := Lib.hid (fun vs W (h : Below w.heap.size w W) (hs : DsAt W vs (smallD ds ot ds.length)) => once_c _ _ vs rel C coef vars _ W (H0.out.below h) (H1.out.below h) hs hg2 hr hC hnz (by rw [smallD_len]; omega))
  have CR2 := Lib.hid (fun vs W (h : Below w.heap.size w W) (hs : DsAt W vs (smallD ds ot ds.length)) => refOnce_c _ _ vs rel C coef vars _ W (H0.out.below h) (H1.out.below h) hs hg2 hr hC hnz (by rw [smallD_len]; omega) hnd)
  have HSUB := Lib.hid (fun r' h => once_sub rel C (smallD ds ot ds.length) ds (coef.zip vars) (smallD_len ds ot ds.length) (fun j => small_sub ds ot j) r' h)
  clear hck hm hm2 CM CM2 hg hg2 hr hC hnz hnd g4
  generalize hps : coef.zip vars = ps at *
  clear hps
  have CO1 : Hid (∀ W, Below w.heap.size w W → Calls Try.prog 10 #[.agg #[.slice a0 coef.length c0, .slice a1 vars.length c1, .int .i64 rel, .int .i64 C], .slice a2 ds.length c2] W fun e w' => e = .returned (.tuple #[.slice none 0 0, .bool false]) ∧ Below W.heap.size W w') := fun W h => by
    have := CO.out W h
    rw [hres1] at this
    exact this.mono fun _ _ h => h.no
  have CO3 : Hid (∀ vs W, Below w.heap.size w W → DsAt W vs (smallD ds ot ds.length) → Calls Try.prog 10 #[.agg #[.slice a0 coef.length c0, .slice a1 vars.length c1, .int .i64 rel, .int .i64 C], vs] W fun e w' => e = .returned (.tuple #[.slice none 0 0, .bool false]) ∧ Below W.heap.size W w') := fun vs W h hs => by
    have := CO2.out vs W h hs
    rw [hres] at this
    exact this.mono fun _ _ h => h.no
  have CR3 : Hid (∀ vs W, Below w.heap.size w W → DsAt W vs (smallD ds ot ds.length) → Calls Try.prog 14 #[.agg #[.slice a0 coef.length c0, .slice a1 vars.length c1, .int .i64 rel, .int .i64 C], vs] W fun e w' => e = .returned (.tuple #[.slice none 0 0, .bool false]) ∧ Below W.heap.size W w') := fun vs W h hs => by
    have := CR2.out vs W h hs
    rw [hres] at this
    exact this.mono fun _ _ h => h.no
  clear CO CO2 CR2 HSUB hres hres1 CK1
  go_enter Try.func7, Try.ntmps7
  go_wp2_with (first
    | (go_at_call 13; (with_reducible refine (CM1.out).mono ?_); rintro e W1 ⟨rfl, bb⟩; have B1 := Lib.hid (HZ0.out.trans (bb.mono HZ0.out.size)); have L1 := Lib.hid (HB0.out.below bb (by simp)); obtain ⟨l01, _⟩ := L1.out.get 0 rfl; obtain ⟨l11, _⟩ := L1.out.get 1 rfl; obtain ⟨l21, _⟩ := L1.out.get 2 rfl; obtain ⟨l31, _⟩ := L1.out.get 3 rfl; clear bb)
    | (go_at_call 13; (with_reducible refine (CM3.out _ B1.out).mono ?_); rintro e W2 ⟨rfl, bb⟩; have B2 := Lib.hid (B1.out.trans (bb.mono B1.out.size)); have L2 := Lib.hid (L1.out.below bb (by have := L1.out.lt (by simp); omega)); obtain ⟨l02, _⟩ := L2.out.get 0 rfl; obtain ⟨l12, _⟩ := L2.out.get 1 rfl; obtain ⟨l22, _⟩ := L2.out.get 2 rfl; obtain ⟨l32, _⟩ := L2.out.get 3 rfl; clear bb)
    | (go_at_call 9; (with_reducible refine (CC.out _ B2.out).mono ?_); rintro e W3 ⟨rfl, bb⟩; have B3 := Lib.hid (B2.out.trans (bb.mono B2.out.size)); have L3 := Lib.hid (L2.out.below bb (by have := L2.out.lt (by simp); omega)); obtain ⟨l03, _⟩ := L3.out.get 0 rfl; obtain ⟨l13, _⟩ := L3.out.get 1 rfl; obtain ⟨l23, _⟩ := L3.out.get 2 rfl; obtain ⟨l33, _⟩ := L3.out.get 3 rfl; clear bb))
  have hs3 := B3.out.size
  have hl3 := L3.out.lt (by simp)
  clear l01 l11 l21 l31 l02 l12 l22 l32 l03 l13 l23 l33 L1 L2 B1 B2 CM1 CM3 CC HZ0 HB0
  go_loopw [7, 8] (fun o s wr => ∃ k : Nat, ∃ us : List Value, k ≤ ds.length ∧ s = .int .i64 k ∧ Hid (DsApp wr W3.heap.size o (smallD ds ot k) us) ∧ Hid (Below W3.heap.size W3 wr)) (fun _ s _ => ds.length - (intOf s).toNat)
  case atStart => exact ⟨0, [], by omega, rfl, Lib.hid (DsApp.nil (World.ownsRow_made W3 #[] 0 (Nat.le_refl _) (by decide) rfl)), Lib.hid ((Below.refl _ _).alloc (Nat.le_refl _) _)⟩
  case round =>
    obtain ⟨k, us, hk, rfl, HA, HB⟩ := hrel
    have hle := HB.out.size
    by_cases hlt : k < ds.length
    · obtain ⟨b, off, ao, cap, rfl, q1, q2, _, hc, hrg⟩ := HD.out.get k hlt
      have j1 : (k : Int) < ds.length := by omega
      have hBw : Hid (Below w.heap.size w wr) := B3.out.trans (HB.out.mono hs3)
      rw [← hBw.out.cell (p := ⟨b, off + k, none⟩) q2] at hc
      have hdl : ds[k].length ≤ 10 := HDS.out _ (List.getElem_mem hlt)
      have HST := Lib.hid (smallD_step ds ot k)
      have HSL := Lib.hid (smallD_len ds ot k)
      have hgd := getD_at ds k hlt []
      have HRG := Lib.hid hrg
      have HSA : Hid (smallAt ds ot k = if k < ot.length then meetL ds[k] (ot.getD k []) else ds[k]) := by show _ = _; unfold smallAt; rw [hgd]
      clear hrg hgd
      obtain ⟨oa, oc, rfl, _⟩ := HA.out.own.at.shape
      generalize smallAt ds ot k = SA at *
      generalize ds[k] = d at *
      by_cases hot : k < ot.length
      · obtain ⟨b4, o4, a4, c4, rfl, q3, q4, _, hc4, hr4⟩ := HO.out.get k hot
        have j2 : (k : Int) < ot.length := by omega
        have hgo := getD_at ot k hot []
        have hel : ot[k].length ≤ 10 := HOT.out _ (List.getElem_mem hot)
        rw [hgo, if_pos hot] at HSA
        rw [← hBw.out.cell (p := ⟨b4, o4 + k, none⟩) q4] at hc4
        have CME := Lib.hid (refMeet_n _ _ d ot[k] wr (HRG.out.below hBw.out) (hr4.below hBw.out) (by omega) (by omega))
        rw [← HSA.out] at CME
        clear hr4 hgo
        generalize ot[k] = f at *
        rw [HSL.out]
        go_wp2_with (first
          | (go_at_call 19; (with_reducible refine CME.out.mono ?_); rintro e W5 ⟨a5, c5, rfl, r5, b5, n5⟩; have HA5 := Lib.hid (HA.out.below b5); have HAP := Lib.hid (apart_made HA.out.2.1 n5); have R5 := Lib.hid r5; have Q5 := Lib.hid (HB.out.trans (b5.mono hle)); have hs5 := b5.size; clear b5 r5 n5)
          | (at_builtin; refine wpList_append1L rfl (.tmp 56) (.tmp 58) 30 rfl W3.heap.size 29 i0 (.slice none 0 0) 24 Try.underlying30 hi hz0 hz1 hz2 rfl _ _ _ rfl (by have := HA5.out.2.1; rw [HSL.out] at this; exact this) _ rfl rfl (by omega) (by omega) ?_; intro g5 cap5 w5 ow bw kw gw))
        refine ⟨⟨k + 1, us ++ [.slice a5 SA.length c5], by omega, by go_num, ?_, Lib.hid (Q5.out.trans bw)⟩, by simp [intOf]; omega⟩
        have hA5 := HA5.out
        rw [HSL.out] at hA5
        have := DsApp.push (ds := smallD ds ot k) (g := g5) (cap := cap5) HA5.out R5.out (fun _ => by have := HAP.out; rw [HSL.out] at this ⊢; exact this) (by rw [HSL.out]; exact ow) (by rw [HSL.out]; exact kw) (by rw [HSL.out]; exact gw)
        rw [HSL.out, ← HST.out] at this
        exact Lib.hid this
      · have hotd : ¬ (k : Int) < ot.length := by omega
        rw [if_neg hot] at HSA
        have R5 := Lib.hid (HRG.out.below hBw.out)
        have HAP : Hid (d ≠ [] → Apart (.slice ao d.length cap) (.slice oa (smallD ds ot k).length oc)) := fun hne => apart_low HA.out.2.1 (fun b hb => by have := HRG.out.blk hne b hb; have := B3.out.size; omega)
        obtain rfl : SA = d := HSA.out
        rw [HSL.out]
        go_wp2_with (at_builtin; refine wpList_append1L rfl (.tmp 56) (.tmp 58) 30 rfl W3.heap.size 29 i0 (.slice none 0 0) 24 Try.underlying30 hi hz0 hz1 hz2 rfl _ _ _ rfl (by have := HA.out.2.1; rw [HSL.out] at this; exact this) _ rfl rfl (by omega) (by omega) ?_; intro g5 cap5 w5 ow bw kw gw)
        refine ⟨⟨k + 1, us ++ [.slice ao SA.length cap], by omega, by go_num, ?_, Lib.hid (HB.out.trans bw)⟩, by simp [intOf]; omega⟩
        have := DsApp.push (ds := smallD ds ot k) (g := g5) (cap := cap5) HA.out R5.out HAP.out (by rw [HSL.out]; exact ow) (by rw [HSL.out]; exact kw) (by rw [HSL.out]; exact gw)
        rw [HSL.out, ← HST.out] at this
        exact Lib.hid this
    · obtain rfl : k = ds.length := by omega
      have hSL := smallD_len ds ot ds.length
      have HSL := Lib.hid hSL
      have HAT := Lib.hid HA.out.own.at
      obtain ⟨oa, oc, rfl, _⟩ := HAT.out.shape
      have B4 := Lib.hid (B3.out.trans (HB.out.mono hs3))
      have L4 := Lib.hid (L3.out.below HB.out hl3)
      obtain ⟨l04, _⟩ := L4.out.get 0 rfl
      obtain ⟨l14, _⟩ := L4.out.get 1 rfl
      obtain ⟨l24, _⟩ := L4.out.get 2 rfl
      obtain ⟨l34, _⟩ := L4.out.get 3 rfl
      have hl4 := L4.out.lt (by simp)
      clear HA hSL
      go_wp2_with (first
        | (go_at_call 10; (with_reducible refine (CO1.out _ B4.out).mono ?_); rintro e W6 ⟨rfl, bb⟩; have B6 := Lib.hid (B4.out.trans (bb.mono B4.out.size)); have L6 := Lib.hid (L4.out.below bb hl4); have A6 := Lib.hid (HAT.out.below bb); obtain ⟨l06, _⟩ := L6.out.get 0 rfl; obtain ⟨l16, _⟩ := L6.out.get 1 rfl; obtain ⟨l26, _⟩ := L6.out.get 2 rfl; obtain ⟨l36, _⟩ := L6.out.get 3 rfl; have hl6 := L6.out.lt (by simp); clear bb)
        | (go_at_call 10; (with_reducible refine (CO3.out _ _ B6.out A6.out).mono ?_); rintro e W7 ⟨rfl, bb⟩; have B7 := Lib.hid (B6.out.trans (bb.mono B6.out.size)); have L7 := Lib.hid (L6.out.below bb hl6); have A7 := Lib.hid (A6.out.below bb); obtain ⟨l07, _⟩ := L7.out.get 0 rfl; obtain ⟨l17, _⟩ := L7.out.get 1 rfl; obtain ⟨l27, _⟩ := L7.out.get 2 rfl; obtain ⟨l37, _⟩ := L7.out.get 3 rfl; have hl7 := L7.out.lt (by simp); clear bb)
        | (go_at_call 14; (with_reducible refine (CR3.out _ _ B7.out A7.out).mono ?_); rintro e W8 ⟨rfl, bb⟩; have B8 := Lib.hid (B7.out.trans (bb.mono B7.out.size)); clear bb))
      go_ret
      exact ⟨rfl, B8.out⟩
set_option maxRecDepth 100000 in
set_option maxHeartbeats 6400000 in
theorem linLess_some (va vb vds vot : Value) (rel C : Int) (coef vars : List Int) (ds ot : Ds) (w : World) (h0 : IsAt w va coef) (h1 : IsAt w vb vars) (hd : DsAt w vds ds) (ho : DsAt w vot ot) (hm : manyB coef vars ds = false) (hm2 : manyB coef vars ot = false) (hck : linChk coef vars rel C ds.length = 0) (r r1 : Ds) (hres1 : onceL rel C ds (coef.zip vars) = some r1) (hres : onceL rel C (smallD ds ot ds.length) (coef.zip vars) = some r) :
    Calls Try.prog 7 #[.agg #[va, vb, .int .i64 rel, .int .i64 C], vds, vot] w fun e w' => e = .returned (.bool true) ∧ Below w.heap.size w w' := by
  obtain ⟨i0, hi, hz0, hz1, hz2⟩ := info_parts Try.infoRgs
  have HZ0 : Hid (Below w.heap.size w (w.alloc (.cells #[va, vb, .int .i64 rel, .int .i64 C] 24))) := (Below.refl _ _).alloc (Nat.le_refl _) _
  have HB0 : Hid (BoxL (w.alloc (.cells #[va, vb, .int .i64 rel, .int .i64 C] 24)) w.heap.size [va, vb, .int .i64 rel, .int .i64 C]) := BoxL.mk' _ #[va, vb, .int .i64 rel, .int .i64 C] _
  have CM := Lib.hid (fun W (h : Below w.heap.size w W) => lawMany_c va vb vds rel C coef vars ds W (h0.below h) (h1.below h) (hd.below h))
  have CM2 := Lib.hid (fun W (h : Below w.heap.size w W) => lawMany_c va vb vot rel C coef vars ot W (h0.below h) (h1.below h) (ho.below h))
  have CK1 : Hid (∀ W, Calls Try.prog 8 #[.agg #[.slice none 0 0, .slice none 0 0, .int .i64 3, .int .i64 1099511627777], .int .i64 0] W fun e w' => e = .returned (.int .i64 150) ∧ Below W.heap.size W w') := fun W => linCheck_const 3 1099511627777 0 W
  have H0 := Lib.hid h0
  have H1 := Lib.hid h1
  have HD := Lib.hid hd
  have HO := Lib.hid ho
  obtain ⟨a0, c0, rfl, _⟩ := IsAt.shape h0
  obtain ⟨a1, c1, rfl, _⟩ := IsAt.shape h1
  obtain ⟨a2, c2, rfl, _⟩ := hd.shape
  obtain ⟨a3, c3, rfl, _⟩ := ho.shape
  clear h0 h1 hd ho
  obtain ⟨g1, g2, g3, g4⟩ := many_ok hm
  have HOT := Lib.hid (many_ok hm2).2.2.2
  have hol := (many_ok hm2).1
  have CC : Hid (∀ W, Below w.heap.size w W → Calls Try.prog 9 #[.agg #[.slice a0 coef.length c0, .slice a1 vars.length c1, .int .i64 rel, .int .i64 C], .int .i64 ds.length] W fun e w' => e = .returned (.int .i64 (linChk coef vars rel C ds.length)) ∧ Below W.heap.size W w') :=
    fun W h => refCheck_any _ _ rel C _ coef vars W (H0.out.below h) (H1.out.below h) (by omega) (by omega)
  have CM1 := Lib.hid (CM.out _ HZ0.out)
  rw [hm] at CM1
  have CM3 := Lib.hid CM2.out
  rw [hm2] at CM3
  rw [hck] at CC
  obtain ⟨hg, hr, hC, hnz, hnd⟩ := chk_good hck (fun d hd => by have := g4 d hd; omega)
  have hg2 : GoodL coef vars (smallD ds ot ds.length) := ⟨hg.len, hg.le16, hg.coefs, fun v hv => by rw [smallD_len]; exact hg.vars v hv, fun d hd => by have := small_short ds ot g4 ds.length d hd; omega⟩
  have HDS := Lib.hid g4
  have CO := Lib.hid (fun W (h : Below w.heap.size w W) => once_c _ _ _ rel C coef vars ds W (H0.out.below h) (H1.out.below h) (HD.out.below h) hg hr hC hnz (by omega))
  have CO2 := Lib.hid (fun vs W (h : Below w.heap.size w W) (hs : DsAt W vs (smallD ds ot ds.length)) => once_c _ _ vs rel C coef vars _ W (H0.out.below h) (H1.out.below h) hs hg2 hr hC hnz (by rw [smallD_len]; omega))
  have CR2 := Lib.hid (fun vs W (h : Below w.heap.size w W) (hs : DsAt W vs (smallD ds ot ds.length)) => refOnce_c _ _ vs rel C coef vars _ W (H0.out.below h) (H1.out.below h) hs hg2 hr hC hnz (by rw [smallD_len]; omega) hnd)
  have HSUB := Lib.hid (fun r' h => once_sub rel C (smallD ds ot ds.length) ds (coef.zip vars) (smallD_len ds ot ds.length) (fun j => small_sub ds ot j) r' h)
  clear hck hm hm2 CM CM2 hg hg2 hr hC hnz hnd g4
  generalize hps : coef.zip vars = ps at *
  clear hps
  have HRL : Hid (r.length = ds.length) := by
    show _ = _
    have := once_len _ _ _ _ _ hres
    rw [smallD_len] at this; exact this
  have HRL1 : Hid (r1.length = ds.length) := once_len _ _ _ _ _ hres1
  have CO1 : Hid (∀ W, Below w.heap.size w W → Calls Try.prog 10 #[.agg #[.slice a0 coef.length c0, .slice a1 vars.length c1, .int .i64 rel, .int .i64 C], .slice a2 ds.length c2] W fun e w' => ∃ ao cap, e = .returned (.tuple #[.slice ao ds.length cap, .bool true]) ∧ DsAt w' (.slice ao ds.length cap) r1 ∧ Below W.heap.size W w') := fun W h => by
    have := CO.out W h
    rw [hres1] at this
    exact this.mono fun _ _ h => by
      have h2 := h.is
      rw [HRL1.out] at h2
      exact h2
  have CO3 : Hid (∀ vs W, Below w.heap.size w W → DsAt W vs (smallD ds ot ds.length) → Calls Try.prog 10 #[.agg #[.slice a0 coef.length c0, .slice a1 vars.length c1, .int .i64 rel, .int .i64 C], vs] W fun e w' => ∃ ao cap, e = .returned (.tuple #[.slice ao ds.length cap, .bool true]) ∧ DsAt w' (.slice ao ds.length cap) r ∧ Below W.heap.size W w') := fun vs W h hs => by
    have := CO2.out vs W h hs
    rw [hres] at this
    exact this.mono fun _ _ h => by
      have h2 := h.is
      rw [HRL.out] at h2
      exact h2
  have CR3 : Hid (∀ vs W, Below w.heap.size w W → DsAt W vs (smallD ds ot ds.length) → Calls Try.prog 14 #[.agg #[.slice a0 coef.length c0, .slice a1 vars.length c1, .int .i64 rel, .int .i64 C], vs] W fun e w' => ∃ ao cap, e = .returned (.tuple #[.slice ao ds.length cap, .bool true]) ∧ DsAt w' (.slice ao ds.length cap) r ∧ Below W.heap.size W w') := fun vs W h hs => by
    have := CR2.out vs W h hs
    rw [hres] at this
    exact this.mono fun _ _ h => by
      have h2 := h.is
      rw [HRL.out] at h2
      exact h2
  have HSR0 : Hid (∀ j x, memL (r.getD j []) x = true → memL (r1.getD j []) x = true) := by
    obtain ⟨r2, h1, h2⟩ := HSUB.out r hres
    rw [hres1] at h1; cases h1; exact h2
  have HL1 : Hid (∀ j, (hj : j < r1.length) → r1[j].length ≤ 4096) := fun j hj => Nat.le_trans (onceL_len _ _ _ _ r1 hres1 j hj) (by omega)
  have HL2 : Hid (∀ j, (hj : j < r.length) → r[j].length ≤ 4096) := fun j hj => Nat.le_trans (onceL_len _ _ _ _ r hres j hj) (by omega)
  clear CO CO2 CR2 HSUB hres hres1 CK1
  go_enter Try.func7, Try.ntmps7
  go_wp2_with (first
    | (go_at_call 13; (with_reducible refine (CM1.out).mono ?_); rintro e W1 ⟨rfl, bb⟩; have B1 := Lib.hid (HZ0.out.trans (bb.mono HZ0.out.size)); have L1 := Lib.hid (HB0.out.below bb (by simp)); obtain ⟨l01, _⟩ := L1.out.get 0 rfl; obtain ⟨l11, _⟩ := L1.out.get 1 rfl; obtain ⟨l21, _⟩ := L1.out.get 2 rfl; obtain ⟨l31, _⟩ := L1.out.get 3 rfl; clear bb)
    | (go_at_call 13; (with_reducible refine (CM3.out _ B1.out).mono ?_); rintro e W2 ⟨rfl, bb⟩; have B2 := Lib.hid (B1.out.trans (bb.mono B1.out.size)); have L2 := Lib.hid (L1.out.below bb (by have := L1.out.lt (by simp); omega)); obtain ⟨l02, _⟩ := L2.out.get 0 rfl; obtain ⟨l12, _⟩ := L2.out.get 1 rfl; obtain ⟨l22, _⟩ := L2.out.get 2 rfl; obtain ⟨l32, _⟩ := L2.out.get 3 rfl; clear bb)
    | (go_at_call 9; (with_reducible refine (CC.out _ B2.out).mono ?_); rintro e W3 ⟨rfl, bb⟩; have B3 := Lib.hid (B2.out.trans (bb.mono B2.out.size)); have L3 := Lib.hid (L2.out.below bb (by have := L2.out.lt (by simp); omega)); obtain ⟨l03, _⟩ := L3.out.get 0 rfl; obtain ⟨l13, _⟩ := L3.out.get 1 rfl; obtain ⟨l23, _⟩ := L3.out.get 2 rfl; obtain ⟨l33, _⟩ := L3.out.get 3 rfl; clear bb))
  have hs3 := B3.out.size
  have hl3 := L3.out.lt (by simp)
  clear l01 l11 l21 l31 l02 l12 l22 l32 l03 l13 l23 l33 L1 L2 B1 B2 CM1 CM3 CC HZ0 HB0
  go_loopw [7, 8] (fun o s wr => ∃ k : Nat, ∃ us : List Value, k ≤ ds.length ∧ s = .int .i64 k ∧ Hid (DsApp wr W3.heap.size o (smallD ds ot k) us) ∧ Hid (Below W3.heap.size W3 wr)) (fun _ s _ => ds.length - (intOf s).toNat)
  case atStart => exact ⟨0, [], by omega, rfl, Lib.hid (DsApp.nil (World.ownsRow_made W3 #[] 0 (Nat.le_refl _) (by decide) rfl)), Lib.hid ((Below.refl _ _).alloc (Nat.le_refl _) _)⟩
  case round =>
    obtain ⟨k, us, hk, rfl, HA, HB⟩ := hrel
    have hle := HB.out.size
    by_cases hlt : k < ds.length
    · obtain ⟨b, off, ao, cap, rfl, q1, q2, _, hc, hrg⟩ := HD.out.get k hlt
      have j1 : (k : Int) < ds.length := by omega
      have hBw : Hid (Below w.heap.size w wr) := B3.out.trans (HB.out.mono hs3)
      rw [← hBw.out.cell (p := ⟨b, off + k, none⟩) q2] at hc
      have hdl : ds[k].length ≤ 10 := HDS.out _ (List.getElem_mem hlt)
      have HST := Lib.hid (smallD_step ds ot k)
      have HSL := Lib.hid (smallD_len ds ot k)
      have hgd := getD_at ds k hlt []
      have HRG := Lib.hid hrg
      have HSA : Hid (smallAt ds ot k = if k < ot.length then meetL ds[k] (ot.getD k []) else ds[k]) := by show _ = _; unfold smallAt; rw [hgd]
      clear hrg hgd
      obtain ⟨oa, oc, rfl, _⟩ := HA.out.own.at.shape
      generalize smallAt ds ot k = SA at *
      generalize ds[k] = d at *
      by_cases hot : k < ot.length
      · obtain ⟨b4, o4, a4, c4, rfl, q3, q4, _, hc4, hr4⟩ := HO.out.get k hot
        have j2 : (k : Int) < ot.length := by omega
        have hgo := getD_at ot k hot []
        have hel : ot[k].length ≤ 10 := HOT.out _ (List.getElem_mem hot)
        rw [hgo, if_pos hot] at HSA
        rw [← hBw.out.cell (p := ⟨b4, o4 + k, none⟩) q4] at hc4
        have CME := Lib.hid (refMeet_n _ _ d ot[k] wr (HRG.out.below hBw.out) (hr4.below hBw.out) (by omega) (by omega))
        rw [← HSA.out] at CME
        clear hr4 hgo
        generalize ot[k] = f at *
        rw [HSL.out]
        go_wp2_with (first
          | (go_at_call 19; (with_reducible refine CME.out.mono ?_); rintro e W5 ⟨a5, c5, rfl, r5, b5, n5⟩; have HA5 := Lib.hid (HA.out.below b5); have HAP := Lib.hid (apart_made HA.out.2.1 n5); have R5 := Lib.hid r5; have Q5 := Lib.hid (HB.out.trans (b5.mono hle)); have hs5 := b5.size; clear b5 r5 n5)
          | (at_builtin; refine wpList_append1L rfl (.tmp 56) (.tmp 58) 30 rfl W3.heap.size 29 i0 (.slice none 0 0) 24 Try.underlying30 hi hz0 hz1 hz2 rfl _ _ _ rfl (by have := HA5.out.2.1; rw [HSL.out] at this; exact this) _ rfl rfl (by omega) (by omega) ?_; intro g5 cap5 w5 ow bw kw gw))
        refine ⟨⟨k + 1, us ++ [.slice a5 SA.length c5], by omega, by go_num, ?_, Lib.hid (Q5.out.trans bw)⟩, by simp [intOf]; omega⟩
        have hA5 := HA5.out
        rw [HSL.out] at hA5
        have := DsApp.push (ds := smallD ds ot k) (g := g5) (cap := cap5) HA5.out R5.out (fun _ => by have := HAP.out; rw [HSL.out] at this ⊢; exact this) (by rw [HSL.out]; exact ow) (by rw [HSL.out]; exact kw) (by rw [HSL.out]; exact gw)
        rw [HSL.out, ← HST.out] at this
        exact Lib.hid this
      · have hotd : ¬ (k : Int) < ot.length := by omega
        rw [if_neg hot] at HSA
        have R5 := Lib.hid (HRG.out.below hBw.out)
        have HAP : Hid (d ≠ [] → Apart (.slice ao d.length cap) (.slice oa (smallD ds ot k).length oc)) := fun hne => apart_low HA.out.2.1 (fun b hb => by have := HRG.out.blk hne b hb; have := B3.out.size; omega)
        obtain rfl : SA = d := HSA.out
        rw [HSL.out]
        go_wp2_with (at_builtin; refine wpList_append1L rfl (.tmp 56) (.tmp 58) 30 rfl W3.heap.size 29 i0 (.slice none 0 0) 24 Try.underlying30 hi hz0 hz1 hz2 rfl _ _ _ rfl (by have := HA.out.2.1; rw [HSL.out] at this; exact this) _ rfl rfl (by omega) (by omega) ?_; intro g5 cap5 w5 ow bw kw gw)
        refine ⟨⟨k + 1, us ++ [.slice ao SA.length cap], by omega, by go_num, ?_, Lib.hid (HB.out.trans bw)⟩, by simp [intOf]; omega⟩
        have := DsApp.push (ds := smallD ds ot k) (g := g5) (cap := cap5) HA.out R5.out HAP.out (by rw [HSL.out]; exact ow) (by rw [HSL.out]; exact kw) (by rw [HSL.out]; exact gw)
        rw [HSL.out, ← HST.out] at this
        exact Lib.hid this
    · obtain rfl : k = ds.length := by omega
      have hSL := smallD_len ds ot ds.length
      have HSL := Lib.hid hSL
      have HAT := Lib.hid HA.out.own.at
      obtain ⟨oa, oc, rfl, _⟩ := HAT.out.shape
      have B4 := Lib.hid (B3.out.trans (HB.out.mono hs3))
      have L4 := Lib.hid (L3.out.below HB.out hl3)
      obtain ⟨l04, _⟩ := L4.out.get 0 rfl
      obtain ⟨l14, _⟩ := L4.out.get 1 rfl
      obtain ⟨l24, _⟩ := L4.out.get 2 rfl
      obtain ⟨l34, _⟩ := L4.out.get 3 rfl
      have hl4 := L4.out.lt (by simp)
      clear HA hSL
      go_wp2_with (first
        | (go_at_call 10; (with_reducible refine (CO1.out _ B4.out).mono ?_); rintro e W6 ⟨a6, c6, rfl, r6, bb⟩; have D6 := Lib.hid r6; have B6 := Lib.hid (B4.out.trans (bb.mono B4.out.size)); have L6 := Lib.hid (L4.out.below bb hl4); have A6 := Lib.hid (HAT.out.below bb); obtain ⟨l06, _⟩ := L6.out.get 0 rfl; obtain ⟨l16, _⟩ := L6.out.get 1 rfl; obtain ⟨l26, _⟩ := L6.out.get 2 rfl; obtain ⟨l36, _⟩ := L6.out.get 3 rfl; have hl6 := L6.out.lt (by simp); clear bb r6)
        | (go_at_call 10; (with_reducible refine (CO3.out _ _ B6.out A6.out).mono ?_); rintro e W7 ⟨a7, c7, rfl, r7, bb⟩; have D7 := Lib.hid r7; have D67 := Lib.hid (D6.out.below bb); have B7 := Lib.hid (B6.out.trans (bb.mono B6.out.size)); have L7 := Lib.hid (L6.out.below bb hl6); have A7 := Lib.hid (A6.out.below bb); obtain ⟨l07, _⟩ := L7.out.get 0 rfl; obtain ⟨l17, _⟩ := L7.out.get 1 rfl; obtain ⟨l27, _⟩ := L7.out.get 2 rfl; obtain ⟨l37, _⟩ := L7.out.get 3 rfl; have hl7 := L7.out.lt (by simp); clear bb r7)
        | (go_at_call 14; (with_reducible refine (CR3.out _ _ B7.out A7.out).mono ?_); rintro e W8 ⟨a8, c8, rfl, r8, bb⟩; have D8 := Lib.hid (D7.out.below bb); have D68 := Lib.hid (D67.out.below bb); have B8 := Lib.hid (B7.out.trans (bb.mono B7.out.size)); clear bb r8))
      have HSR : Hid (∀ j, j < ds.length → minusL (r.getD j []) (r1.getD j []) = []) := fun j _ => minus_none _ _ (HSR0.out j)
      have h8a : Hid (DsAt W8 (.slice a6 ds.length c6) r1) := D68.out
      have h8b : Hid (DsAt W8 (.slice a7 ds.length c7) r) := D8.out
      clear D6 D67 D7 A6 A7 HAT l04 l14 l24 l34 l06 l16 l26 l36 l07 l17 l27 l37 L4 L6 L7
      obtain ⟨wo, rfl⟩ : ∃ wo : World, wo = wr := ⟨_, rfl⟩
      go_loopw [16] (fun s wr => ∃ k : Nat, k ≤ ds.length ∧ s = .int .i64 k ∧ Hid (Below W8.heap.size W8 wr)) (fun s _ => ds.length - (intOf s).toNat)
      case atStart => exact ⟨0, by omega, rfl, Lib.hid (Below.refl _ _)⟩
      case round =>
        obtain ⟨k, hk, rfl, HQ⟩ := hrel
        by_cases hlt : k < ds.length
        · have hk1 : k < r1.length := by have := HRL1.out; omega
          have hk2 : k < r.length := by have := HRL.out; omega
          obtain ⟨b6, o6, a6', c6', rfl, q1, q2, hj1, hc1, hr1⟩ := h8a.out.get k hk1
          obtain ⟨b7, o7, a7', c7', rfl, q3, q4, hj2, hc2, hr2⟩ := h8b.out.get k hk2
          clear hj1 hj2
          have j1 : (k : Int) < ds.length := by omega
          have j0 : (0 : Int) ≤ (k : Int) := by omega
          have HMI : Hid (minusL r[k] r1[k] = []) := by
            have := HSR.out k hlt
            rwa [getD_at r k hk2, getD_at r1 k hk1] at this
          have hl1 : r1[k].length ≤ 4096 := HL1.out k hk1
          have hl2 : r[k].length ≤ 4096 := HL2.out k hk2
          have CMI : Hid (∀ W, Below wr.heap.size wr W → Calls Try.prog 20 #[.slice a7' r[k].length c7', .slice a6' r1[k].length c6'] W fun e w' => ∃ ao cap, e = .returned (.slice ao 0 cap) ∧ Below W.heap.size W w') := fun W h => by
            have h2 := HQ.out.trans (h.mono HQ.out.size)
            have := refMinus_c _ _ r[k] r1[k] W (hr2.below h2) (hr1.below h2) hl2 hl1
            rw [HMI.out] at this
            exact this.mono fun e w' ⟨ao, cap, he, _, hb⟩ => ⟨ao, cap, he, hb⟩
          clear hr1 hr2
          have HSW : Hid (∀ W', Below wr.heap.size wr W' → W'.cell? ⟨b7, o7 + k, none⟩ = some (.slice a7' r[k].length c7') ∧ W'.cell? ⟨b6, o6 + k, none⟩ = some (.slice a6' r1[k].length c6')) := fun W' h => by
            have h2 := HQ.out.trans (h.mono HQ.out.size)
            exact ⟨(h2.cell (p := ⟨b7, o7 + k, none⟩) q4).trans hc2, (h2.cell (p := ⟨b6, o6 + k, none⟩) q2).trans hc1⟩
          clear hc1 hc2 HMI
          generalize r[k] = x at *
          generalize r1[k] = y at *
          obtain ⟨s0, s1⟩ := HSW.out wr (Below.refl _ _)
          go_wp2
          go_region_held3 (fun W' => W'.cell? ⟨b7, o7 + k, none⟩ = some (.slice a7' x.length c7') ∧ W'.cell? ⟨b6, o6 + k, none⟩ = some (.slice a6' y.length c6')) ((first | exact HSW.out _ BW.out | (refine HSW.out _ ?_; go_grown)))
            (first | (go_at_call 20; refine (CMI.out _ ?_).mono ?_; (· go_grown); rintro e W4 ⟨a9, c9, rfl, bb⟩; have bw : Below wr.heap.size wr W4 := Below.trans (by go_grown) bb; have BW := Lib.hid bw; clear bb bw))
          all_goals
            go_wp2
            exact ⟨⟨k + 1, by omega, by go_num, Lib.hid (HQ.out.trans (BW.out.mono HQ.out.size))⟩, by simp [intOf]; omega⟩
        · go_wp2
          go_ret
          exact ⟨rfl, B8.out.trans (HQ.out.mono B8.out.size)⟩
theorem linLess_any (va vb vds vot : Value) (rel C : Int) (coef vars : List Int) (ds ot : Ds) (w : World) (h0 : IsAt w va coef) (h1 : IsAt w vb vars) (hd : DsAt w vds ds) (ho : DsAt w vot ot) :
    Calls Try.prog 7 #[.agg #[va, vb, .int .i64 rel, .int .i64 C], vds, vot] w fun e w' => e = .returned (.bool true) ∧ Below w.heap.size w w' := by
  by_cases hm : manyB coef vars ds = false
  · by_cases hm2 : manyB coef vars ot = false
    · by_cases hck : linChk coef vars rel C ds.length = 0
      · cases hres : onceL rel C (smallD ds ot ds.length) (coef.zip vars) with
        | none =>
          cases hres1 : onceL rel C ds (coef.zip vars) with
          | none => exact linLess_none2 va vb vds vot rel C coef vars ds ot w h0 h1 hd ho hm hm2 hck hres1 hres
          | some r1 => exact linLess_none1 va vb vds vot rel C coef vars ds ot w h0 h1 hd ho hm hm2 hck r1 hres1 hres
        | some r =>
          obtain ⟨r1, hres1, _⟩ := once_sub rel C (smallD ds ot ds.length) ds (coef.zip vars) (smallD_len ds ot ds.length) (fun j => small_sub ds ot j) r hres
          exact linLess_some va vb vds vot rel C coef vars ds ot w h0 h1 hd ho hm hm2 hck r r1 hres1 hres
      · exact linLess_bad3 va vb vds vot rel C coef vars ds ot w h0 h1 hd ho hm hm2 hck
    · exact linLess_bad2 va vb vds vot rel C coef vars ds ot w h0 h1 hd ho hm (by simpa using hm2)
  · exact linLess_bad1 va vb vds vot rel C coef vars ds ot w h0 h1 hd ho (by simpa using hm)
end Go.Proofs.Ytmmogifmogdegaa
