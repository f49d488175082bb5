/-
  What the laws of layer 15 begin with: the bound, the check.
-/
import Derived.Test.YtmmogifmogdegaaLinF5
import Derived.Test.YtmmogifmogdegaaLin9
import Derived.Test.YtmmogifmogdegaaChk2
namespace Go.Proofs.Ytmmogifmogdegaa
open Go.RowKit

def manyB (coef vars : List Int) (ds : Ds) : Bool := decide (6 < ds.length) || decide (6 < vars.length) || decide (6 < coef.length) || ds.any fun d => decide (10 < d.length)
theorem many_ok {coef vars : List Int} {ds : Ds} (h : manyB coef vars ds = false) : ds.length ≤ 6 ∧ vars.length ≤ 6 ∧ coef.length ≤ 6 ∧ ∀ d ∈ ds, d.length ≤ 10 := by
  simp only [manyB, Bool.or_eq_false_iff, decide_eq_false_iff_not, List.any_eq_false, decide_eq_true_eq] at h
  obtain ⟨⟨⟨h1, h2⟩, h3⟩, h4⟩ := h
  exact ⟨by omega, by omega, by omega, fun d hd => by have := h4 d hd; omega⟩

set_option maxRecDepth 100000 in
set_option maxHeartbeats 800000 in
theorem lawMany_c (va vb vds : Value) (rel C : Int) (coef vars : List Int) (ds : Ds) (w : World) (h0 : IsAt w va coef) (h1 : IsAt w vb vars) (hd : DsAt w vds ds) :
    Calls Try.prog 13 #[.agg #[va, vb, .int .i64 rel, .int .i64 C], vds] w fun e w' => e = .returned (.bool (manyB coef vars ds)) ∧ Below w.heap.size w w' := by
  obtain ⟨a0, c0, rfl, _⟩ := IsAt.shape h0
  obtain ⟨a1, c1, rfl, _⟩ := IsAt.shape h1
  obtain ⟨a2, c2, rfl, _⟩ := hd.shape
  have HD := Lib.hid hd
  have HZ : Hid (∀ T, Below w.heap.size w (w.alloc (.cells #[.slice a0 coef.length c0, .slice a1 vars.length c1, .int .i64 rel, .int .i64 C] T))) := fun T => (Below.refl _ _).alloc (Nat.le_refl _) _
  clear h0 h1 hd
  unfold manyB
  by_cases g1 : 6 < ds.length
  · go_enter Try.func13, Try.ntmps13
    go_wp2
    go_ret
    exact ⟨ret_bool (by simp [g1]), HZ.out _⟩
  by_cases g2 : 6 < vars.length
  · go_enter Try.func13, Try.ntmps13
    go_wp2
    go_ret
    exact ⟨ret_bool (by simp [g2]), HZ.out _⟩
  by_cases g3 : 6 < coef.length
  · go_enter Try.func13, Try.ntmps13
    go_wp2
    go_ret
    exact ⟨ret_bool (by simp [g3]), HZ.out _⟩
  rw [show (decide (6 < ds.length) || decide (6 < vars.length) || decide (6 < coef.length) || ds.any fun d => decide (10 < d.length)) = ds.any fun d => decide (10 < d.length) by simp [g1, g2, g3]]
  go_enter Try.func13, Try.ntmps13
  go_wp2
  have HZ1 := Lib.hid (HZ.out 24)
  generalize (w.alloc (.cells #[.slice a0 coef.length c0, .slice a1 vars.length c1, .int .i64 rel, .int .i64 C] 24)) = W at HZ1 ⊢
  go_loop [5] (fun s => ∃ k : Nat, k ≤ ds.length ∧ s = .int .i64 k ∧ Hid (((ds.take k).any fun d => decide (10 < d.length)) = false)) (fun s => ds.length - (intOf s).toNat)
  case atStart => exact ⟨0, by omega, rfl, rfl⟩
  case round =>
    obtain ⟨k, hk, rfl, HE⟩ := hrel
    by_cases hlt : k < ds.length
    · obtain ⟨b, off, ao, cap, rfl, q1, q2, _, hc, _⟩ := HD.out.get k hlt
      have j1 : (k : Int) < ds.length := by omega
      rw [← HZ1.out.cell (p := ⟨b, off + k, none⟩) q2] at hc
      have HS : Hid (((ds.take (k + 1)).any fun d => decide (10 < d.length)) = (((ds.take k).any fun d => decide (10 < d.length)) || decide (10 < ds[k].length))) := by
        show _ = _
        rw [List.take_succ_eq_append_getElem hlt, List.any_append, List.any_cons, List.any_nil, Bool.or_false]
      have HT : Hid (10 < ds[k].length → (ds.any fun d => decide (10 < d.length)) = true) := fun h => by
        rw [List.any_eq_true]; exact ⟨ds[k], List.getElem_mem _, by simpa using h⟩
      generalize ds[k] = d at *
      by_cases hx : 10 < d.length
      · have HT2 := Lib.hid (HT.out hx)
        go_wp2
        go_ret
        exact ⟨ret_bool (by rw [HT2.out]), HZ1.out⟩
      · go_wp2
        exact ⟨⟨k + 1, by omega, by go_num, by show _ = _; rw [HS.out, HE.out]; simp [hx]⟩, by simp [intOf]; omega⟩
    · obtain rfl : k = ds.length := by omega
      rw [List.take_length] at HE
      go_wp2
      go_ret
      exact ⟨ret_bool (by rw [HE.out]), HZ1.out⟩

/-- a sum that may be -/
theorem chk_good {coef vars : List Int} {rel c : Int} {ds : Ds} (h : linChk coef vars rel c ds.length = 0) (hd : ∀ d ∈ ds, d.length ≤ 4096) :
    GoodL coef vars ds ∧ (rel = 1 ∨ rel = 2 ∨ rel = 3) ∧ (-1099511627776 ≤ c ∧ c ≤ 1099511627776) ∧ (∀ z ∈ coef, z ≠ 0) ∧ vars.Nodup := by
  unfold linChk at h
  split at h
  · cases h
  · rename_i hs
    split at h
    · cases h
    · rename_i hv
      simp only [shapeB, Bool.or_eq_true, not_or, bne_iff_ne, ne_eq, Decidable.not_not, decide_eq_true_eq, Bool.not_eq_true, List.any_eq_false] at hs
      obtain ⟨⟨⟨⟨⟨⟨h1, h2⟩, h3⟩, h4⟩, h5⟩, h6⟩, h7⟩ := hs
      have hv' : ∀ k, k < vars.length → badV vars ds.length k = false := fun k hk => by
        simp only [Bool.not_eq_true, List.any_eq_false, List.mem_range] at hv
        exact hv k hk
      have hod : ∀ z ∈ coef, z ≠ 0 ∧ -100000 ≤ z ∧ z ≤ 100000 := fun z hz => by
        have := h7 z hz
        simp [oddB] at this
        omega
      have hb : ∀ k, (hk : k < vars.length) → 0 ≤ vars[k] ∧ vars[k] < ds.length ∧ ∀ j, (hj : j < k) → vars[k] ≠ vars[j]'(by omega) := fun k hk => by
        have := hv' k hk
        unfold badV at this
        rw [List.getD_eq_getElem?_getD, List.getElem?_eq_getElem hk, Option.getD_some] at this
        simp only [Bool.or_eq_false_iff, decide_eq_false_iff_not, List.any_eq_false, beq_iff_eq] at this
        refine ⟨by omega, by omega, fun j hj he => this.2 (vars[j]'(by omega)) ?_ he⟩
        rw [List.mem_take_iff_getElem]
        exact ⟨j, by omega, rfl⟩
      refine ⟨⟨h1, by omega, fun z hz => (hod z hz).2, fun v hv => ?_, hd⟩, by omega, ⟨by omega, by omega⟩, fun z hz => (hod z hz).1, ?_⟩
      · obtain ⟨k, hk, rfl⟩ := List.getElem_of_mem hv
        have := hb k hk; exact ⟨this.1, this.2.1⟩
      · rw [List.Nodup, List.pairwise_iff_getElem]
        intro i j hi hj hij he
        exact (hb j hj).2.2 i hij he.symm
theorem onceGo_short (rel c : Int) (ds : Ds) (lo hi : Int) : ∀ (ps : Ps) (out r : Ds), (∀ d ∈ out, d.length ≤ 201) → onceGo rel c ds lo hi ps out = some r → ∀ d ∈ r, d.length ≤ 201
  | [], out, r, h, e => by simp [onceGo] at e; subst e; exact h
  | p :: ps, out, r, h, e => by
    unfold onceGo at e
    split at e
    · cases e
    · refine onceGo_short rel c ds lo hi ps _ r (fun d hd => ?_) e
      rcases List.mem_or_eq_of_mem_set hd with h1 | h1
      · exact h d h1
      · rw [h1]; unfold narrowAt narrowL; exact canon_len _
theorem onceL_len (rel c : Int) (ds : Ds) (ps : Ps) (r : Ds) (h : onceL rel c ds ps = some r) (j : Nat) (hj : j < r.length) : r[j].length ≤ 201 := by
  unfold onceL at h
  split at h
  · split at h
    · cases h
    · refine onceGo_short _ _ _ _ _ _ _ _ (fun d hd => ?_) h _ (List.getElem_mem hj)
      obtain ⟨x, _, rfl⟩ := List.mem_map.1 hd
      exact norm_len x
  · cases h
theorem RetO.is {r : Ds} {w w' : World} {e : Ending} (h : RetO (some r) w e w') : ∃ ao cap, e = .returned (.tuple #[.slice ao r.length cap, .bool true]) ∧ DsAt w' (.slice ao r.length cap) r ∧ Below w.heap.size w w' := by
  obtain ⟨hb, ⟨ds, ao, cap, hr, he, hd⟩ | ⟨hr, _⟩⟩ := h
  · cases hr; exact ⟨ao, cap, he, hd, hb⟩
  · cases hr
theorem RetO.no {w w' : World} {e : Ending} (h : RetO none w e w') : e = .returned (.tuple #[.slice none 0 0, .bool false]) ∧ Below w.heap.size w w' := by
  obtain ⟨hb, ⟨ds, ao, cap, hr, he, hd⟩ | ⟨_, he⟩⟩ := h
  · cases hr
  · exact ⟨he, hb⟩
theorem linCheck_const (rel c n : Int) (W : World) : Calls Try.prog 8 #[.agg #[.slice none 0 0, .slice none 0 0, .int .i64 rel, .int .i64 c], .int .i64 n] W fun e w' => e = .returned (.int .i64 (linChk [] [] rel c n)) ∧ Below W.heap.size W w' :=
  linCheck_any _ _ rel c n [] [] W (show SlAt W 1 _ 0 [] from SlAt.nil) (show SlAt W 1 _ 0 [] from SlAt.nil) (by simp) (by simp)
def U16At (w : World) (v : Value) (zs : List Int) : Prop := SlAt w 1 v zs.length (zs.map (Value.int .u16))
theorem U16At.below {w w' : World} {v : Value} {zs : List Int} (h : U16At w v zs) (hb : Below w.heap.size w w') : U16At w' v zs := SlAt.below h hb
theorem U16At.get {w : World} {ao : Option Addr} {n cap : Nat} {zs : List Int} (h : U16At w (.slice ao n cap) zs) (k : Nat) (hk : k < zs.length) :
    ∃ b off, ao = some ⟨b, off, none⟩ ∧ zs.length ≤ cap ∧ b < w.heap.size ∧ w.cell? ⟨b, off + k, none⟩ = some (.int .u16 zs[k]) := by
  obtain ⟨b, off, c', he, hc, _, hb, hx⟩ := SlAt.pos h (by omega)
  simp only [Value.slice.injEq] at he
  obtain ⟨rfl, rfl, rfl⟩ := he
  exact ⟨b, off, rfl, hc, hb, by rw [hx k (by omega), List.getElem?_map, List.getElem?_eq_getElem hk]; rfl⟩
theorem getD_snoc_lt (xs : List Int) (v : Int) (j : Nat) (h : j < xs.length) : (xs ++ [v]).getD j 0 = xs.getD j 0 := by
  rw [List.getD_eq_getElem?_getD, List.getD_eq_getElem?_getD, List.getElem?_append_left h]
theorem getD_snoc_at (xs : List Int) (v : Int) : (xs ++ [v]).getD xs.length 0 = v := by
  rw [List.getD_eq_getElem?_getD, List.getElem?_append_right (Nat.le_refl _), Nat.sub_self]; rfl
theorem quietHere {P : Program} {f : FuncId} {args : Array Value} {w : World} {n : Nat} {v : Value} (h : Calls P f args (w.drewN n) fun e w' => e = .returned v ∧ w.drewN n = w') :
    Calls P f args (w.drewN n) fun e w'' => e = .returned v ∧ ∃ m, w'' = w.drewN m := h.mono fun _ _ ⟨he, hw⟩ => ⟨he, n, hw.symm⟩
end Go.Proofs.Ytmmogifmogdegaa
