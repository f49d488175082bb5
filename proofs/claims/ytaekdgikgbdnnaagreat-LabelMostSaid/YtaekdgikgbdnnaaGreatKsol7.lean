/-
  PLAIN LAWS: all values of some domains, one list behind the other; no program.
  What the laws of layer 19 begin with: the bound, the check, all variables, the plain options.
  All variables of a problem; every list of values for which all constraints hold, walked.
-/
import Derived.Test.YtaekdgikgbdnnaaGreatKsol6
import Derived.Test.YtaekdgikgbdnnaaGreatKflaw1
import Derived.Test.YtaekdgikgbdnnaaGreatKdom1
import Derived.Test.YtaekdgikgbdnnaaGreatKdom3
namespace Go.Proofs.YtaekdgikgbdnnaaGreat

/-- the integers of a set, rising -/
def listS (S : Int → Bool) : Nat → Int → List Int
  | 0, _ => []
  | k + 1, n => if S n = true then n :: listS S k (n + 1) else listS S k (n + 1)
theorem listS_len (S : Int → Bool) : ∀ (k : Nat) (n : Int), ((listS S k n).length : Int) = cnt S k n
  | 0, _ => rfl
  | k + 1, n => by
    have ih := listS_len S k (n + 1)
    unfold listS cnt
    split
    · rw [List.length_cons]; omega
    · omega
theorem listS_get (S : Int → Bool) : ∀ (k : Nat) (n : Int) (i : Nat), (listS S k n)[i]? = seek S k n i
  | 0, _, _ => rfl
  | k + 1, n, i => by
    have ih := listS_get S k (n + 1)
    unfold listS seek
    split
    · cases i with
      | zero => simp
      | succ i =>
        rw [List.getElem?_cons_succ, ih i, if_neg (by omega)]
        congr 1; omega
    · exact ih i
theorem listS_mem (S : Int → Bool) : ∀ (k : Nat) (n x : Int), x ∈ listS S k n ↔ n ≤ x ∧ x < n + k ∧ S x = true
  | 0, n, x => by simp [listS]; omega
  | k + 1, n, x => by
    have ih := listS_mem S k (n + 1) x
    unfold listS
    split
    · rename_i h
      rw [List.mem_cons, ih]
      constructor
      · rintro (rfl | ⟨a, b, c⟩)
        · exact ⟨Int.le_refl _, by omega, h⟩
        · exact ⟨by omega, by omega, c⟩
      · rintro ⟨a, b, c⟩
        by_cases e : x = n
        · exact .inl e
        · exact .inr ⟨by omega, by omega, c⟩
    · rename_i h
      rw [ih]
      constructor
      · rintro ⟨a, b, c⟩; exact ⟨by omega, by omega, c⟩
      · rintro ⟨a, b, c⟩
        by_cases e : x = n
        · subst e; exact absurd c h
        · exact ⟨by omega, by omega, c⟩
theorem listS_rise (S : Int → Bool) : ∀ (k : Nat) (n : Int), (listS S k n).Pairwise (· < ·)
  | 0, _ => List.Pairwise.nil
  | k + 1, n => by
    have ih := listS_rise S k (n + 1)
    unfold listS
    split
    · exact List.pairwise_cons.2 ⟨fun x hx => by have := ((listS_mem S k (n + 1) x).1 hx).1; omega, ih⟩
    · exact ih
/-- the integers of a domain -/
def valsL (d : List Rg) : List Int := listS (memL d) 401 (-200)
theorem valsL_len (d : List Rg) : ((valsL d).length : Int) = sizeL (norm d) := by
  unfold valsL norm; rw [listS_len, sizeL_canon]
theorem valsL_at (d : List Rg) (i : Nat) : atL (norm d) i = (valsL d)[i]? := by
  unfold valsL norm; rw [listS_get, atL_canon _ _ (by omega)]
theorem valsL_mem (d : List Rg) (x : Int) : x ∈ valsL d ↔ memL (norm d) x = true := by
  unfold valsL
  rw [listS_mem, memL_norm]
  unfold inD
  simp only [Bool.and_eq_true, decide_eq_true_eq]
  constructor
  · rintro ⟨a, b, c⟩; exact ⟨⟨by omega, by omega⟩, c⟩
  · rintro ⟨⟨a, b⟩, c⟩; exact ⟨by omega, by omega, c⟩
/-- each list, longer by each value -/
def prodStep (X : List (List Int)) (d : List Rg) : List (List Int) := X.flatMap (fun x => (valsL d).map (fun v => x ++ [v]))
def prodL (D : Ds) : List (List Int) := D.foldl prodStep [[]]
def everyL (D : Ds) (ps : List PL) : List (List Int) := (prodL D).filter (allHold ps)
theorem prodL_snoc (D : Ds) (d : List Rg) : prodL (D ++ [d]) = prodStep (prodL D) d := by unfold prodL; rw [List.foldl_append]; rfl
theorem prodL_mem : ∀ (n : Nat) (D : Ds), D.length = n → ∀ x, x ∈ prodL D ↔ Has (D.map norm) x
  | 0, D, h, x => by
    obtain rfl := List.eq_nil_of_length_eq_zero h
    unfold prodL Has
    simp
  | n + 1, D, h, x => by
    have hne : D ≠ [] := by rintro rfl; simp at h
    obtain ⟨E, d, rfl⟩ : ∃ E d, D = E ++ [d] := ⟨D.dropLast, D.getLast hne, (List.dropLast_concat_getLast hne).symm⟩
    have hE : E.length = n := by simpa using h
    have ih := prodL_mem n E hE
    rw [prodL_snoc]
    unfold prodStep
    rw [List.mem_flatMap]
    constructor
    · rintro ⟨y, hy, hx⟩
      obtain ⟨v, hv, rfl⟩ := List.mem_map.1 hx
      obtain ⟨h1, h2⟩ := (ih y).1 hy
      rw [List.length_map] at h1 h2
      refine ⟨by simp [h1], fun j hj => ?_⟩
      rw [List.length_map, List.length_append, List.length_singleton] at hj
      rw [getD_map_norm, List.getD_eq_getElem?_getD, List.getD_eq_getElem?_getD]
      by_cases hjl : j < E.length
      · have := h2 j hjl
        rw [getD_map_norm, List.getD_eq_getElem?_getD, List.getD_eq_getElem?_getD] at this
        rw [List.getElem?_append_left hjl, List.getElem?_append_left (by omega)]; exact this
      · obtain rfl : j = E.length := by omega
        rw [List.getElem?_append_right (Nat.le_refl _), List.getElem?_append_right (by omega), h1]
        simp
        exact (valsL_mem d v).1 hv
    · rintro ⟨h1, h2⟩
      rw [List.length_map, List.length_append, List.length_singleton] at h1 h2
      have hxn : x ≠ [] := by rintro rfl; simp at h1
      obtain ⟨y, v, rfl⟩ : ∃ y v, x = y ++ [v] := ⟨x.dropLast, x.getLast hxn, (List.dropLast_concat_getLast hxn).symm⟩
      have hy : y.length = E.length := by simpa using h1
      refine ⟨y, (ih y).2 ⟨by rw [List.length_map]; exact hy, fun j hj => ?_⟩, List.mem_map.2 ⟨v, ?_, rfl⟩⟩
      · rw [List.length_map] at hj
        have := h2 j (by omega)
        rw [getD_map_norm, List.getD_eq_getElem?_getD, List.getD_eq_getElem?_getD, List.getElem?_append_left hj, List.getElem?_append_left (by omega)] at this
        rw [getD_map_norm, List.getD_eq_getElem?_getD, List.getD_eq_getElem?_getD]; exact this
      · have := h2 E.length (by omega)
        rw [getD_map_norm, List.getD_eq_getElem?_getD, List.getD_eq_getElem?_getD, List.getElem?_append_right (Nat.le_refl _), List.getElem?_append_right (by omega), hy] at this
        simp at this
        exact (valsL_mem d v).2 this
theorem lexLt_snoc {x : List Int} {v w : Int} (h : v < w) : lexLt (x ++ [v]) (x ++ [w]) :=
  ⟨x.length, fun j hj => by rw [List.getD_eq_getElem?_getD, List.getD_eq_getElem?_getD, List.getElem?_append_left hj, List.getElem?_append_left hj], by
    rw [List.getD_eq_getElem?_getD, List.getD_eq_getElem?_getD, List.getElem?_append_right (Nat.le_refl _), List.getElem?_append_right (Nat.le_refl _)]; simpa using h⟩
theorem lexLt_append {x y : List Int} (hl : x.length = y.length) (h : lexLt x y) (a b : List Int) : lexLt (x ++ a) (y ++ b) := by
  obtain ⟨k, h1, h2⟩ := h
  have hk : k < x.length := by
    apply Classical.byContradiction
    intro hn
    rw [List.getD_eq_getElem?_getD, List.getD_eq_getElem?_getD, List.getElem?_eq_none (by omega), List.getElem?_eq_none (by omega)] at h2
    simp at h2
  have e : ∀ (z c : List Int) (j : Nat), j < z.length → (z ++ c).getD j 0 = z.getD j 0 := fun z c j hj => by
    rw [List.getD_eq_getElem?_getD, List.getD_eq_getElem?_getD, List.getElem?_append_left hj]
  exact ⟨k, fun j hj => by rw [e x a j (by omega), e y b j (by omega)]; exact h1 j hj, by rw [e x a k hk, e y b k (by omega)]; exact h2⟩
theorem prodL_len : ∀ (n : Nat) (D : Ds), D.length = n → ∀ x ∈ prodL D, x.length = D.length := fun n D h x hx => by
  have := ((prodL_mem n D h x).1 hx).1
  rwa [List.length_map] at this
theorem prodL_order : ∀ (n : Nat) (D : Ds), D.length = n → (prodL D).Pairwise lexLt
  | 0, D, h => by
    obtain rfl := List.eq_nil_of_length_eq_zero h
    exact List.pairwise_singleton _ _
  | n + 1, D, h => by
    have hne : D ≠ [] := by rintro rfl; simp at h
    obtain ⟨E, d, rfl⟩ : ∃ E d, D = E ++ [d] := ⟨D.dropLast, D.getLast hne, (List.dropLast_concat_getLast hne).symm⟩
    have hE : E.length = n := by simpa using h
    have ih := prodL_order n E hE
    have hlen := prodL_len n E hE
    rw [prodL_snoc]
    unfold prodStep
    generalize prodL E = X at ih hlen
    induction X with
    | nil => exact List.Pairwise.nil
    | cons x X ihx =>
      obtain ⟨p1, p2⟩ := List.pairwise_cons.1 ih
      rw [List.flatMap_cons]
      refine List.pairwise_append.2 ⟨?_, ihx p2 (fun y hy => hlen y (List.mem_cons_of_mem _ hy)), ?_⟩
      · rw [List.pairwise_map]
        exact (listS_rise (memL d) 401 (-200)).imp (fun h => lexLt_snoc h)
      · intro a ha b hb
        obtain ⟨v, _, rfl⟩ := List.mem_map.1 ha
        obtain ⟨y, hy, hb⟩ := List.mem_flatMap.1 hb
        obtain ⟨w, _, rfl⟩ := List.mem_map.1 hb
        exact lexLt_append (by rw [hlen x List.mem_cons_self, hlen y (List.mem_cons_of_mem _ hy)]) (p1 y hy) _ _
theorem lexLt_irrefl (x : List Int) : ¬ lexLt x x := fun ⟨_, _, h⟩ => by omega
theorem lexLt_asym {x y : List Int} (h : lexLt x y) (g : lexLt y x) : False := by
  obtain ⟨k, h1, h2⟩ := h
  obtain ⟨m, g1, g2⟩ := g
  rcases Nat.lt_trichotomy k m with e | e | e
  · have := g1 k e; omega
  · subst e; omega
  · have := h1 m e; omega
/-- two lists in order with the same members are the same -/
theorem order_unique : ∀ {l m : List (List Int)}, l.Pairwise lexLt → m.Pairwise lexLt → (∀ x, x ∈ l ↔ x ∈ m) → l = m
  | [], [], _, _, _ => rfl
  | [], y :: m, _, _, h => by have := (h y).2 List.mem_cons_self; simp at this
  | x :: l, [], _, _, h => by have := (h x).1 List.mem_cons_self; simp at this
  | x :: l, y :: m, hl, hm, h => by
    obtain ⟨a1, a2⟩ := List.pairwise_cons.1 hl
    obtain ⟨b1, b2⟩ := List.pairwise_cons.1 hm
    have hxy : x = y := by
      rcases List.mem_cons.1 ((h x).1 List.mem_cons_self) with e | e
      · exact e
      · rcases List.mem_cons.1 ((h y).2 List.mem_cons_self) with e' | e'
        · exact e'.symm
        · exact (lexLt_asym (a1 y e') (b1 x e)).elim
    subst hxy
    have : l = m := order_unique a2 b2 (fun z => by
      constructor
      · intro hz
        rcases List.mem_cons.1 ((h z).1 (List.mem_cons_of_mem _ hz)) with e | e
        · subst e; exact (lexLt_irrefl _ (a1 _ hz)).elim
        · exact e
      · intro hz
        rcases List.mem_cons.1 ((h z).2 (List.mem_cons_of_mem _ hz)) with e | e
        · subst e; exact (lexLt_irrefl _ (b1 _ hz)).elim
        · exact e)
    rw [this]
theorem every_mem (D : Ds) (ps : List PL) (x : List Int) : x ∈ everyL D ps ↔ Sol ps D x := by
  unfold everyL Sol
  rw [List.mem_filter, prodL_mem _ D rfl, allHold_iff]
theorem every_order (D : Ds) (ps : List PL) : (everyL D ps).Pairwise lexLt := (prodL_order _ D rfl).sublist List.filter_sublist
theorem every_nodup (D : Ds) (ps : List PL) : (everyL D ps).Nodup := (every_order D ps).imp (fun h e => by subst e; exact lexLt_irrefl _ h)
end Go.Proofs.YtaekdgikgbdnnaaGreat
namespace Go.Proofs.YtaekdgikgbdnnaaGreat
open Go.RowKit

def big19 (d : List Rg) : Bool := decide (4 < d.length) || decide (60 < sizeL (norm d))
def bigP19 (p : PL) : Bool := decide (4 < p.vars.length) || decide (4 < p.coef.length) || decide (5 < p.vs.length)
def prodI : Ds → Int
  | [] => 1
  | d :: D => sizeL (norm d) * prodI D
theorem size_nn (d : List Rg) : 0 ≤ sizeL (norm d) ∧ sizeL (norm d) ≤ 401 := by unfold norm; rw [sizeL_canon]; exact cnt_nonneg _ 401 (-200)
theorem sizeN_eq (d : List Rg) : (sizeN d : Int) = sizeL (norm d) := by
  have h := (cnt_nonneg (memL d) 401 (-200)).1
  unfold sizeN norm
  rw [sizeL_canon, Int.toNat_of_nonneg h]
theorem prodI_eq : ∀ (D : Ds), prodI D = prodN D
  | [] => rfl
  | d :: D => by
    show sizeL (norm d) * prodI D = ((sizeN d * prodN D : Nat) : Int)
    rw [prodI_eq D, Int.natCast_mul, sizeN_eq]
theorem prodI_snoc : ∀ (D : Ds) (d : List Rg), prodI (D ++ [d]) = prodI D * sizeL (norm d)
  | [], d => by simp [prodI]
  | e :: D, d => by
    show sizeL (norm e) * prodI (D ++ [d]) = sizeL (norm e) * prodI D * sizeL (norm d)
    rw [prodI_snoc D d, Int.mul_assoc]
theorem prodI_take (ds : Ds) (k : Nat) (hk : k < ds.length) : prodI (ds.take (k + 1)) = prodI (ds.take k) * sizeL (norm ds[k]) := by
  rw [List.take_succ_eq_append_getElem hk, prodI_snoc]
def many19 (ds : Ds) (ps : List PL) : Bool := decide (4 < ds.length) || decide (5 < ps.length) || ds.any big19 || ps.any bigP19 || decide (200 < prodI ds)
theorem many19_17 {ds : Ds} {ps : List PL} (h : many19 ds ps = false) : many17 ds ps = false ∧ ds.length ≤ 4 ∧ prodI ds ≤ 200 ∧ (∀ d ∈ ds, d.length ≤ 4 ∧ sizeL (norm d) ≤ 60) ∧ ps.length ≤ 5 := by
  simp only [many19, big19, bigP19, Bool.or_eq_false_iff, decide_eq_false_iff_not, List.any_eq_false, decide_eq_true_eq, Bool.or_eq_true, not_or] at h
  obtain ⟨⟨⟨⟨h1, h2⟩, h3⟩, h4⟩, h5⟩ := h
  refine ⟨?_, by omega, by omega, fun d hd => by have := h3 d hd; omega, by omega⟩
  simp only [many17, bigD, bigP, Bool.or_eq_false_iff, decide_eq_false_iff_not, List.any_eq_false, decide_eq_true_eq, Bool.or_eq_true, not_or]
  exact ⟨⟨⟨by omega, by omega⟩, fun d hd => by have := h3 d hd; omega⟩, fun p hp => by have := h4 p hp; omega⟩
theorem mul_bnd19 {a b A B : Int} (h1 : 0 ≤ a) (h2 : a ≤ A) (h3 : 0 ≤ b) (h4 : b ≤ B) : 0 ≤ a * b ∧ a * b ≤ A * B :=
  ⟨Int.mul_nonneg h1 h3, Int.mul_le_mul h2 h4 h3 (Int.le_trans h1 h2)⟩
/-- the product so far, of sets that are small -/
theorem prodI_bnd {ds : Ds} : ∀ (k : Nat), (ds.take k).any big19 = false → 0 ≤ prodI (ds.take k) ∧ prodI (ds.take k) ≤ 60 ^ k
  | 0, _ => by simp [prodI]
  | k + 1, h => by
    by_cases hk : k < ds.length
    · rw [List.take_succ_eq_append_getElem hk, List.any_append, Bool.or_eq_false_iff] at h
      have ih := prodI_bnd (ds := ds) k h.1
      have hs : sizeL (norm ds[k]) ≤ 60 := by
        have := h.2
        simp [big19] at this
        exact this.2
      rw [prodI_take ds k hk]
      have := mul_bnd19 ih.1 ih.2 (size_nn ds[k]).1 hs
      rw [Int.pow_succ]
      exact this
    · rw [List.take_of_length_le (by omega)] at h ⊢
      have ih := prodI_bnd (ds := ds) k (by rw [List.take_of_length_le (by omega)]; exact h)
      rw [List.take_of_length_le (by omega)] at ih
      refine ⟨ih.1, Int.le_trans ih.2 ?_⟩
      rw [Int.pow_succ]
      have h1 : (0 : Int) ≤ 60 ^ k := Int.le_trans ih.1 ih.2
      omega
theorem prod_step {ds : Ds} {k : Nat} (hk : k < ds.length) (h4 : ds.length ≤ 4) (h : (ds.take k).any big19 = false) (hs : sizeL (norm ds[k]) ≤ 60) : 0 ≤ prodI (ds.take k) * sizeL (norm ds[k]) ∧ prodI (ds.take k) * sizeL (norm ds[k]) ≤ 12960000 := by
  obtain ⟨a, b⟩ := prodI_bnd (ds := ds) k h
  have hb : prodI (ds.take k) ≤ 216000 := by
    refine Int.le_trans b ?_
    rcases (show k = 0 ∨ k = 1 ∨ k = 2 ∨ k = 3 by omega) with rfl | rfl | rfl | rfl <;> decide
  have := mul_bnd19 a hb (size_nn ds[k]).1 hs
  omega

set_option maxRecDepth 100000 in
set_option maxHeartbeats 3200000 in
theorem many19_c (vds vps : Value) (ds : Ds) (ps : List PL) (w : World) (hd : DsAt w vds ds) (hp : PsAt w vps ps) :
    Calls Tryz.prog 16 #[.agg #[vds, vps]] w fun e w' => e = .returned (.bool (many19 ds ps)) ∧ Below w.heap.size w w' := by
  obtain ⟨a0, c0, rfl, _⟩ := hd.shape
  obtain ⟨a1, c1, rfl, _⟩ := hp.shape
  have HZ : Hid (Below w.heap.size w (w.alloc (.cells #[.slice a0 ds.length c0, .slice a1 ps.length c1] 25))) := (Below.refl _ _).alloc (Nat.le_refl _) _
  have HB := Lib.hid (BoxL.mk' w #[.slice a0 ds.length c0, .slice a1 ps.length c1] 25)
  have HD := Lib.hid hd
  have HP := Lib.hid hp
  clear hd hp
  unfold many19
  obtain ⟨l0, _⟩ := HB.out.get 0 rfl
  obtain ⟨l1, _⟩ := HB.out.get 1 rfl
  have hbl := HB.out.lt (by simp)
  generalize hW0 : (w.alloc (.cells #[.slice a0 ds.length c0, .slice a1 ps.length c1] 25)) = W0 at *
  have HWE := Lib.hid hW0
  clear hW0
  by_cases g1 : 4 < ds.length
  · go_enter Tryz.func16, Tryz.ntmps16
    go_upto_region 1 with fail
    rw [HWE.out]
    go_wp2
    go_ret
    exact ⟨ret_bool (by simp), HZ.out⟩
  by_cases g2 : 5 < ps.length
  · go_enter Tryz.func16, Tryz.ntmps16
    go_upto_region 1 with fail
    rw [HWE.out]
    go_wp2
    go_ret
    exact ⟨ret_bool (by simp), HZ.out⟩
  rw [show (decide (4 < ds.length) || decide (5 < ps.length) || ds.any big19 || ps.any bigP19 || decide (200 < prodI ds)) = (ds.any big19 || (ps.any bigP19 || decide (200 < prodI ds))) by simp [g1, g2, Bool.or_assoc]]
  have hn4 : ds.length ≤ 4 := by omega
  go_enter Tryz.func16, Tryz.ntmps16
  go_upto_region 1 with fail
  rw [HWE.out]
  go_wp2
  go_loopw [3, 4] (fun nn s wr => ∃ k : Nat, k ≤ ds.length ∧ s = .int .i64 k ∧ nn = .int .i64 (prodI (ds.take k)) ∧ Hid ((ds.take k).any big19 = false) ∧ Hid (Below W0.heap.size W0 wr)) (fun _ s _ => ds.length - (intOf s).toNat)
  case atStart => exact ⟨0, by omega, rfl, rfl, rfl, Lib.hid (Below.refl _ _)⟩
  case round =>
    obtain ⟨k, hk, rfl, rfl, HE, HB2⟩ := hrel
    have hle := HB2.out.size
    have l0' := (HB2.out.cell (p := ⟨w.heap.size, 0, none⟩) hbl).trans l0
    have l1' := (HB2.out.cell (p := ⟨w.heap.size, 1, none⟩) hbl).trans l1
    by_cases hlt : k < ds.length
    · have BI := Lib.hid (HZ.out.trans (HB2.out.mono HZ.out.size))
      obtain ⟨b, off, ao, cap, rfl, q1, q2, _, hc, hrg⟩ := (HD.out.below BI.out).get k hlt
      have j1 : (k : Int) < ds.length := by omega
      have HS : Hid (big19 ds[k] = false → (ds.take (k + 1)).any big19 = false) := fun h => any_snoc hlt HE.out h
      have HT : Hid (big19 ds[k] = true → (ds.any big19 || (ps.any bigP19 || decide (200 < prodI ds))) = true) := fun h => by rw [any_hit hlt h]; rfl
      have CZ0 : ds[k].length ≤ 4096 → Calls Tryz.prog 28 #[.slice ao ds[k].length cap] wr fun e w' => e = .returned (.int .i64 (sizeL (norm ds[k]))) ∧ Below wr.heap.size wr w' := fun h => refSize_c _ _ wr hrg h
      have HPS := Lib.hid (fun h => prod_step hlt hn4 HE.out h)
      have HPT := Lib.hid (prodI_take ds k hlt)
      have hsz := size_nn ds[k]
      clear hrg
      generalize ds[k] = d at *
      by_cases hx : 4 < d.length
      · have HT2 := Lib.hid (HT.out (by unfold big19; simp [hx]))
        clear CZ0
        go_wp2
        go_ret
        exact ⟨ret_bool (by rw [HT2.out]), BI.out⟩
      · have CZ := Lib.hid (CZ0 (by omega))
        clear CZ0
        have hbl2 := Nat.lt_of_lt_of_le hbl hle
        by_cases hy : 60 < sizeL (norm d)
        · have HT2 := Lib.hid (HT.out (by unfold big19; simp [hy]))
          generalize sizeL (norm d) = sz at *
          go_wp2_with (go_at_call 28; (with_reducible refine CZ.out.mono ?_); rintro e W1 ⟨rfl, bb⟩; have B1 := Lib.hid (HB2.out.trans (bb.mono hle)); clear bb)
          go_ret
          exact ⟨ret_bool (by rw [HT2.out]), HZ.out.trans (B1.out.mono HZ.out.size)⟩
        · have HS2 := Lib.hid (HS.out (by unfold big19; simp [hx, hy]))
          have hps := HPS.out (by omega)
          generalize sizeL (norm d) = sz at *
          generalize prodI (ds.take k) = pn at *
          go_wp2_with (go_at_call 28; (with_reducible refine CZ.out.mono ?_); rintro e W1 ⟨rfl, bb⟩; have B1 := Lib.hid (HB2.out.trans (bb.mono hle)); clear bb)
          exact ⟨⟨k + 1, by omega, by go_num, by rw [HPT.out], HS2, B1⟩, by simp [intOf]; omega⟩
    · obtain rfl : k = ds.length := by omega
      have hpb := prodI_bnd (ds := ds) ds.length HE.out
      rw [List.take_length] at HE hpb ⊢
      have HED := Lib.hid HE.out
      have hpb2 : 0 ≤ prodI ds ∧ prodI ds ≤ 12960000 := ⟨hpb.1, Int.le_trans hpb.2 (by
        rcases (show ds.length = 0 ∨ ds.length = 1 ∨ ds.length = 2 ∨ ds.length = 3 ∨ ds.length = 4 by omega) with h | h | h | h | h <;> rw [h] <;> decide)⟩
      clear hpb
      obtain ⟨W2, hW2⟩ : ∃ W2 : World, W2 = wr := ⟨_, rfl⟩
      subst hW2
      clear HE hlt hk hle
      have BI := Lib.hid (HZ.out.trans (HB2.out.mono HZ.out.size))
      have HP2 : Hid (PsAt W2 (.slice a1 ps.length c1) ps) := HP.out.below BI.out
      go_wp2
      go_loop [6] (fun s => ∃ k : Nat, k ≤ ps.length ∧ s = .int .i64 k ∧ Hid ((ps.take k).any bigP19 = false)) (fun s => ps.length - (intOf s).toNat)
      case atStart => exact ⟨0, by omega, rfl, rfl⟩
      case round =>
        obtain ⟨k, hk, rfl, HE⟩ := hrel
        by_cases hlt : k < ps.length
        · obtain ⟨b1, o1, va, vb, vv, rfl, q1, cc, i0, i1, i2⟩ := HP2.out.get k hlt
          have j1 : (k : Int) < ps.length := by omega
          obtain ⟨x0, x1, x2, x3, x4, x5, x6, x7, x8⟩ := cc
          have HS : Hid (bigP19 ps[k] = false → (ps.take (k + 1)).any bigP19 = false) := fun h => any_snoc hlt HE.out h
          have HT : Hid (bigP19 ps[k] = true → (ds.any big19 || (ps.any bigP19 || decide (200 < prodI ds))) = true) := fun h => by rw [any_hit hlt h]; simp
          obtain ⟨b3, n3, rfl, _⟩ := SlAt.shape i0
          obtain ⟨b4, n4, rfl, _⟩ := SlAt.shape i1
          obtain ⟨b5, n5, rfl, _⟩ := SlAt.shape i2
          clear i0 i1 i2
          generalize ps[k] = p at *
          by_cases h1 : 4 < p.vars.length
          · have HT2 := Lib.hid (HT.out (by unfold bigP19; simp [h1]))
            go_wp2
            go_ret
            exact ⟨ret_bool (by rw [HT2.out]), BI.out⟩
          by_cases h2 : 4 < p.coef.length
          · have HT2 := Lib.hid (HT.out (by unfold bigP19; simp [h2]))
            go_wp2
            go_ret
            exact ⟨ret_bool (by rw [HT2.out]), BI.out⟩
          by_cases h3 : 5 < p.vs.length
          · have HT2 := Lib.hid (HT.out (by unfold bigP19; simp [h3]))
            go_wp2
            go_ret
            exact ⟨ret_bool (by rw [HT2.out]), BI.out⟩
          have HS2 := Lib.hid (HS.out (by unfold bigP19; simp [h1, h2, h3]))
          go_wp2
          exact ⟨⟨k + 1, by omega, by go_num, HS2⟩, by simp [intOf]; omega⟩
        · obtain rfl : k = ps.length := by omega
          rw [List.take_length] at HE
          go_wp2
          go_ret
          exact ⟨ret_bool (by rw [HED.out, HE.out]; rfl), BI.out⟩

def right19 (ds : Ds) (ps : List PL) : Bool := !many19 ds ps && decide (fixChk ds.length ps = 0)
theorem right19_17 {ds : Ds} {ps : List PL} (h : right19 ds ps = true) : right17 ds ps = true := by
  unfold right19 at h
  unfold right17
  rw [Bool.and_eq_true, Bool.not_eq_true'] at h
  rw [Bool.and_eq_true, Bool.not_eq_true']
  exact ⟨(many19_17 h.1).1, h.2⟩
set_option maxRecDepth 100000 in
set_option maxHeartbeats 800000 in
theorem right19_c (vds vps : Value) (ds : Ds) (ps : List PL) (w : World) (hd : DsAt w vds ds) (hp : PsAt w vps ps) :
    Calls Tryz.prog 10 #[.agg #[vds, vps]] w fun e w' => e = .returned (.bool (right19 ds ps)) ∧ Below w.heap.size w w' := by
  obtain ⟨a0, c0, rfl, _⟩ := hd.shape
  obtain ⟨a1, c1, rfl, _⟩ := hp.shape
  have HZ : Hid (Below w.heap.size w (w.alloc (.cells #[.slice a0 ds.length c0, .slice a1 ps.length c1] 25))) := (Below.refl _ _).alloc (Nat.le_refl _) _
  have HB := Lib.hid (BoxL.mk' w #[.slice a0 ds.length c0, .slice a1 ps.length c1] 25)
  have CM := Lib.hid (many19_c _ _ ds ps _ (hd.below HZ.out) (hp.below HZ.out))
  have CC : Hid (∀ W, Below w.heap.size w W → many19 ds ps = false → Calls Tryz.prog 24 #[.slice a0 ds.length c0, .slice a1 ps.length c1] W fun e w' => e = .returned (.int .i64 (fixChk ds.length ps)) ∧ Below W.heap.size W w') := fun W h hm => by
    obtain ⟨m1, m2, m3, m4⟩ := many17_ok (many19_17 hm).1
    exact refFixCheck_c _ _ ds ps W (hd.below h) (hp.below h) (fun j hj => by have := m4 _ (List.getElem_mem hj); exact ⟨by omega, by omega, by omega⟩)
  clear hd hp
  unfold right19
  obtain ⟨l0, _⟩ := HB.out.get 0 rfl
  obtain ⟨l1, _⟩ := HB.out.get 1 rfl
  have hbl := HB.out.lt (by simp)
  generalize hW0 : (w.alloc (.cells #[.slice a0 ds.length c0, .slice a1 ps.length c1] 25)) = W0 at *
  have HWE := Lib.hid hW0
  clear hW0
  generalize hm : many19 ds ps = m at *
  clear hm
  generalize hr : fixChk ds.length ps = r at *
  clear hr
  cases m
  · have CC1 : Hid (∀ W, Below w.heap.size w W → Calls Tryz.prog 24 #[.slice a0 ds.length c0, .slice a1 ps.length c1] W fun e w' => e = .returned (.int .i64 r) ∧ Below W.heap.size W w') := fun W h => CC.out W h rfl
    clear CC
    by_cases hr0 : r = 0
    · subst hr0
      go_enter Tryz.func10, Tryz.ntmps10
      go_upto_region 1 with fail
      rw [HWE.out]
      go_wp2_with (first
        | (go_at_call 16; (with_reducible refine CM.out.mono ?_); rintro e W1 ⟨rfl, bb⟩; have B1 := Lib.hid (HZ.out.trans (bb.mono HZ.out.size)); have m0 := (bb.cell (p := ⟨w.heap.size, 0, none⟩) hbl).trans l0; have m1 := (bb.cell (p := ⟨w.heap.size, 1, none⟩) hbl).trans l1; clear bb)
        | (go_at_call 24; (with_reducible refine (CC1.out _ B1.out).mono ?_); rintro e W2 ⟨rfl, bb⟩; have B2 := Lib.hid (B1.out.trans (bb.mono B1.out.size)); clear bb))
      go_ret
      exact ⟨ret_bool (by simp), B2.out⟩
    · have hr1 : (r == 0) = false := beqf hr0
      go_enter Tryz.func10, Tryz.ntmps10
      go_upto_region 1 with fail
      rw [HWE.out]
      go_wp2_with (first
        | (go_at_call 16; (with_reducible refine CM.out.mono ?_); rintro e W1 ⟨rfl, bb⟩; have B1 := Lib.hid (HZ.out.trans (bb.mono HZ.out.size)); have m0 := (bb.cell (p := ⟨w.heap.size, 0, none⟩) hbl).trans l0; have m1 := (bb.cell (p := ⟨w.heap.size, 1, none⟩) hbl).trans l1; clear bb)
        | (go_at_call 24; (with_reducible refine (CC1.out _ B1.out).mono ?_); rintro e W2 ⟨rfl, bb⟩; have B2 := Lib.hid (B1.out.trans (bb.mono B1.out.size)); clear bb))
      go_ret
      exact ⟨ret_bool (by simp [hr0]), B2.out⟩
  · go_enter Tryz.func10, Tryz.ntmps10
    go_upto_region 1 with fail
    rw [HWE.out]
    go_wp2_with (go_at_call 16; (with_reducible refine CM.out.mono ?_); rintro e W1 ⟨rfl, bb⟩; have B1 := Lib.hid (HZ.out.trans (bb.mono HZ.out.size)); clear bb)
    go_ret
    exact ⟨ret_bool (by simp), B1.out⟩
end Go.Proofs.YtaekdgikgbdnnaaGreat
namespace Go.Proofs.YtaekdgikgbdnnaaGreat
open Go.RowKit

theorem allV_succ (k : Nat) : allV (k + 1) = allV k ++ [(k : Int)] := by unfold allV; rw [List.range_succ, List.map_append]; rfl
set_option maxRecDepth 100000 in
set_option maxHeartbeats 800000 in
theorem all19_c (vds vps : Value) (ds : Ds) (ps : List PL) (w : World) (hd : DsAt w vds ds) (hp : PsAt w vps ps) (hl : ds.length ≤ 4096) :
    Calls Tryz.prog 14 #[.agg #[vds, vps]] w fun e w' => ∃ ao cap, e = .returned (.slice ao ds.length cap) ∧ IsAt w' (.slice ao ds.length cap) (allV ds.length) ∧ Below w.heap.size w w' := by
  obtain ⟨a0, c0, rfl, _⟩ := hd.shape
  obtain ⟨a1, c1, rfl, _⟩ := hp.shape
  clear hd hp
  obtain ⟨t0, ht, hz0, hz1, hz2⟩ := info_parts Tryz.infoIntR
  have HZ : Hid (Below w.heap.size w (w.alloc (.cells #[.slice a0 ds.length c0, .slice a1 ps.length c1] 25))) := (Below.refl _ _).alloc (Nat.le_refl _) _
  have HB := Lib.hid (BoxL.mk' w #[.slice a0 ds.length c0, .slice a1 ps.length c1] 25)
  obtain ⟨l0, _⟩ := HB.out.get 0 rfl
  have hbl := HB.out.lt (by simp)
  generalize hW0 : (w.alloc (.cells #[.slice a0 ds.length c0, .slice a1 ps.length c1] 25)) = W0 at *
  have HWE := Lib.hid hW0
  clear hW0
  have HM : Hid ((W0.alloc (.cells #[] 3)).ownsRow W0.heap.size 3 1 (.slice (some ⟨W0.heap.size, 0, none⟩) 0 0) 0 []) := World.ownsRow_made W0 #[] 0 (Nat.le_refl _) (by decide) rfl
  have HMB : Hid (Below W0.heap.size W0 (W0.alloc (.cells #[] 3))) := (Below.refl _ _).alloc (Nat.le_refl _) _
  obtain ⟨H0, hH0⟩ : ∃ H0, H0 = W0.heap.size := ⟨_, rfl⟩
  have HH := Lib.hid hH0.symm
  rw [← hH0] at HM HMB
  clear hH0
  go_enter Tryz.func14, Tryz.ntmps14
  go_upto_region 1 with fail
  rw [HWE.out]
  go_wp2
  rw [HH.out]
  go_loopw [3, 4] (fun ov s wr => ∃ (k g cap : Nat), k ≤ ds.length ∧ s = .int .i64 k ∧ ov = .slice (some ⟨g, 0, none⟩) k cap ∧ Hid (wr.ownsRow H0 3 1 (.slice (some ⟨g, 0, none⟩) k cap) k ((allV k).map (Value.int .i64))) ∧ Hid (Below H0 W0 wr)) (fun _ s _ => ds.length - (intOf s).toNat)
  case atStart => exact ⟨0, H0, 0, by omega, rfl, rfl, HM, HMB⟩
  case round =>
    clear HM HMB
    obtain ⟨k, g, cap, hk, rfl, rfl, HO, HB2⟩ := hrel
    have hle := HB2.out.size
    have hHH := HH.out
    have l0' := (HB2.out.cell (p := ⟨w.heap.size, 0, none⟩) (by dsimp only; omega)).trans l0
    by_cases hlt : k < ds.length
    · have j1 : (k : Int) < ds.length := by omega
      have hown := HO.out
      go_wp2_with (at_builtin; refine wpList_append1L rfl (.tmp 13) (.tmp 15) 26 rfl H0 3 t0 (.int .i64 0) 8 Tryz.underlying26 ht hz0 hz1 hz2 rfl _ _ _ rfl hown _ rfl rfl (by omega) (by omega) ?_; intro g2 cap2 w1 ow2 bw2 kw2 gw2)
      refine ⟨⟨k + 1, g2, cap2, by omega, by go_num, rfl, ?_, Lib.hid (HB2.out.trans bw2)⟩, by simp [intOf]; omega⟩
      rw [allV_succ, List.map_append]
      exact Lib.hid ow2
    · obtain rfl : k = ds.length := by omega
      go_wp2
      go_ret
      exact ⟨_, _, rfl, by
        have := SlAt.of_own HO.out
        show SlAt _ _ _ _ _
        rw [allV_len]; exact this, HZ.out.trans (HB2.out.mono (by have := HZ.out.size; omega))⟩

/-! ### every list of values -/
def yL (X : List (List Int)) (vs : List Int) (j n : Nat) : List (List Int) := (X.take j).flatMap (fun x => vs.map (fun v => x ++ [v])) ++ (vs.take n).map (fun v => X.getD j [] ++ [v])
theorem yL_next (X : List (List Int)) (vs : List Int) (j n : Nat) (hn : n < vs.length) : yL X vs j (n + 1) = yL X vs j n ++ [X.getD j [] ++ [vs[n]]] := by
  unfold yL
  rw [List.take_succ_eq_append_getElem hn, List.map_append, List.append_assoc]; rfl
theorem yL_row (X : List (List Int)) (vs : List Int) (j : Nat) (hj : j < X.length) : yL X vs j vs.length = yL X vs (j + 1) 0 := by
  unfold yL
  rw [List.take_succ_eq_append_getElem hj, List.flatMap_append, List.take_length, List.getD_eq_getElem?_getD, List.getElem?_eq_getElem hj]
  simp
theorem yL_all (X : List (List Int)) (d : List Rg) : yL X (valsL d) X.length 0 = prodStep X d := by
  unfold yL prodStep
  simp
theorem flat_len {α β : Type} (f : α → List β) (n : Nat) (h : ∀ x, (f x).length = n) : ∀ X : List α, (X.flatMap f).length = X.length * n
  | [] => by simp
  | x :: X => by rw [List.flatMap_cons, List.length_append, h, flat_len f n h X, List.length_cons, Nat.succ_mul]; omega
theorem yL_len (X : List (List Int)) (vs : List Int) (j n : Nat) (hj : j < X.length) : (yL X vs j n).length ≤ X.length * vs.length := by
  unfold yL
  rw [List.length_append, flat_len _ vs.length (fun x => by simp), List.length_map, List.length_take, List.length_take]
  have h1 : min j X.length = j := by omega
  rw [h1]
  have h2 : (j + 1) * vs.length ≤ X.length * vs.length := Nat.mul_le_mul_right _ (by omega)
  rw [Nat.succ_mul] at h2
  omega
theorem prodL_card (D : Ds) : (prodL D).length = prodN D := by
  have h : ∀ n (D : Ds), D.length = n → ((prodL D).length : Int) = prodI D := by
    intro n
    induction n with
    | zero => intro D h; obtain rfl := List.eq_nil_of_length_eq_zero h; rfl
    | succ n ih =>
      intro D h
      have hne : D ≠ [] := by rintro rfl; simp at h
      obtain ⟨E, d, rfl⟩ : ∃ E d, D = E ++ [d] := ⟨D.dropLast, D.getLast hne, (List.dropLast_concat_getLast hne).symm⟩
      rw [prodL_snoc, prodI_snoc, ← ih E (by simpa using h)]
      unfold prodStep
      rw [flat_len _ (valsL d).length (fun x => by simp), Int.natCast_mul, valsL_len]
  have := h _ D rfl
  rw [prodI_eq] at this
  omega
theorem emptyBlk {W : World} {B e g n : Nat} {xs : List Value} (h : W.ownsRow B e 1 (.slice (some ⟨g, 0, none⟩) n 0) n xs) (o : Nat) : W.cell? ⟨g, o, none⟩ = none := by
  rcases h.2 with ⟨h0, _⟩ | ⟨g', cap', cur, he, _, hg, _, _, hs, _⟩
  · cases h0
  · simp only [Value.slice.injEq, Option.some.injEq, Addr.mk.injEq, and_true, true_and] at he
    obtain ⟨rfl, rfl⟩ := he
    have hs0 : cur.size = 0 := by omega
    have : cur = #[] := Array.eq_empty_of_size_eq_zero hs0
    subst this
    simp [World.cell?, hg]
theorem SlAt.notEmpty {w : World} {k : Nat} {v : Value} {n : Nat} {xs : List Value} (h : SlAt w k v n xs) (hp : 0 < n * k) {g : Nat} (hg : ∀ o, w.cell? ⟨g, o, none⟩ = none) : v.ownBlock ≠ some g := fun e => by
  obtain ⟨h1, ao, cap, rfl, h2, h3, h5, h4⟩ := h
  obtain ⟨b, off, rfl, hlt, hc⟩ := h4 hp
  have : b = g := by simpa [Value.ownBlock] using e
  subst this
  have h0 := hc 0 hp
  rw [hg, List.getElem?_eq_getElem (by omega)] at h0
  cases h0
/-- a list of lists stays where only an empty block is written, and new ones -/
theorem LsAt.stay {W W' : World} {v : Value} {L : List (List Int)} {g : Nat} (h : LsAt W v L) (hg : ∀ o, W.cell? ⟨g, o, none⟩ = none) (hs : W.heap.size ≤ W'.heap.size) (hb : ∀ b, b < W.heap.size → b ≠ g → W'.heap[b]? = W.heap[b]?) : LsAt W' v L := by
  obtain ⟨us, h1, h2, h3⟩ := h
  exact ⟨us, h1, h2.ownP hs (fun hp b hb' e => hb b hb' (fun e' => h2.notEmpty hp hg (e' ▸ e))), fun j hj => by
    obtain ⟨u, a, b⟩ := h3 j hj
    exact ⟨u, a, SlAt.ownP b hs (fun hp b' hb' e => hb b' hb' (fun e' => SlAt.notEmpty b hp hg (e' ▸ e)))⟩⟩
end Go.Proofs.YtaekdgikgbdnnaaGreat
