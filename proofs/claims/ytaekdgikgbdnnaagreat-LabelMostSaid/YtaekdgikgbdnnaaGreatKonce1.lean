/-
  PLAIN LAWS of constraints over sets: what a constraint says once; no program.
  slices.Clone of ranges and of integers; rel.down, rel.up, walked.
  rel.Once's closures: what keeps a set, what asks whether one is empty; walked.
  rel.Once asks whether a set is empty; walked.
  PLAIN LAWS: the document's way to say a constraint once comes to the same.
-/
import Derived.Test.YtaekdgikgbdnnaaGreatKlin2
import Derived.Test.YtaekdgikgbdnnaaGreatKrel1
import Derived.Test.YtaekdgikgbdnnaaGreatKdom3
import Derived.Test.YtaekdgikgbdnnaaGreatKdom2
import Derived.Test.YtaekdgikgbdnnaaGreatKlin1
import Derived.Lib.SliceRun
import Derived.Test.YtaekdgikgbdnnaaGreatKlin4
import Derived.Test.YtaekdgikgbdnnaaGreatKrel2
namespace Go.Proofs.YtaekdgikgbdnnaaGreat

abbrev Ks := List (Int × List Rg)
/-- a variable's set, met with what may stay -/
def keepL (out : Ds) (k : Int × List Rg) : Ds := out.set k.1.toNat (meetL (domOf out k.1) k.2)
def keepsL (ks : Ks) (out : Ds) : Ds := ks.foldl keepL out
theorem keepsL_append (a b : Ks) (out : Ds) : keepsL (a ++ b) out = keepsL b (keepsL a out) := by unfold keepsL; rw [List.foldl_append]
theorem keepsL_snoc (a : Ks) (k : Int × List Rg) (out : Ds) : keepsL (a ++ [k]) out = keepL (keepsL a out) k := by rw [keepsL_append]; rfl
theorem keepL_len (out : Ds) (k : Int × List Rg) : (keepL out k).length = out.length := by simp [keepL]
theorem keepsL_len : ∀ (ks : Ks) (out : Ds), (keepsL ks out).length = out.length
  | [], _ => rfl
  | k :: ks, out => by show (keepsL ks (keepL out k)).length = _; rw [keepsL_len ks, keepL_len]
/-- each set is normal -/
def AllN (ds : Ds) : Prop := ∀ j, Normal (ds.getD j [])
theorem allN_norm (ds : Ds) : AllN (ds.map norm) := fun j => by rw [getD_map_norm]; exact norm_normal _
theorem meetL_normal (a b : List Rg) : Normal (meetL a b) := canon_normal _
theorem meetL_mem {a : List Rg} (h : Normal a) (b : List Rg) (x : Int) : memL (meetL a b) x = (memL a x && memL b x) := by
  unfold meetL
  rw [canon_mem]
  cases hm : memL a x with
  | false => simp
  | true =>
    obtain ⟨h1, h2⟩ := memL_bounds h hm
    simp [h1, h2]
theorem allN_set {out : Ds} (h : AllN out) (k : Nat) {d : List Rg} (hd : Normal d) : AllN (out.set k d) := fun j => by
  rw [getD_set]
  split
  · exact hd
  · exact h j
theorem allN_keep {out : Ds} (h : AllN out) (k : Int × List Rg) : AllN (keepL out k) := allN_set h _ (meetL_normal _ _)
theorem allN_keeps : ∀ (ks : Ks) {out : Ds}, AllN out → AllN (keepsL ks out)
  | [], _, h => h
  | k :: ks, _, h => allN_keeps ks (allN_keep h k)
theorem keepL_mem {out : Ds} (h : AllN out) (k : Int × List Rg) (j : Nat) (hj : j < out.length) (x : Int) :
    memL ((keepL out k).getD j []) x = (memL (out.getD j []) x && (!decide (k.1.toNat = j) || memL k.2 x)) := by
  unfold keepL
  rw [getD_set]
  by_cases e : k.1.toNat = j
  · rw [if_pos ⟨e, hj⟩]
    unfold domOf
    rw [e, meetL_mem (h _)]; simp
  · rw [if_neg (fun c => e c.1)]; simp [e]
theorem keepsL_mem (x : Int) (j : Nat) : ∀ (ks : Ks) {out : Ds}, AllN out → j < out.length →
    memL ((keepsL ks out).getD j []) x = (memL (out.getD j []) x && ks.all fun k => !decide (k.1.toNat = j) || memL k.2 x)
  | [], _, _, _ => by simp [keepsL]
  | k :: ks, out, h, hj => by
    show memL ((keepsL ks (keepL out k)).getD j []) x = _
    rw [keepsL_mem x j ks (allN_keep h k) (by rw [keepL_len]; exact hj), keepL_mem h k j hj, List.all_cons, Bool.and_assoc]
/-- lists of normal sets with the same integers are one -/
theorem ds_ext {a b : Ds} (hl : a.length = b.length) (ha : AllN a) (hb : AllN b) (h : ∀ j, j < a.length → ∀ x, memL (a.getD j []) x = memL (b.getD j []) x) : a = b := by
  apply List.ext_getElem hl
  intro j h1 h2
  have e1 : a.getD j [] = a[j] := by simp [List.getD_eq_getElem?_getD, List.getElem?_eq_getElem h1]
  have e2 : b.getD j [] = b[j] := by simp [List.getD_eq_getElem?_getD, List.getElem?_eq_getElem h2]
  have := normal_unique (ha j) (hb j) (h j h1)
  rw [e1, e2] at this
  exact this

/-! ### what each kind of constraint says -/
def hasW (v lo hi a b : Int) : Bool := (List.range (hi + 1 - lo).toNat).any fun i => decide (a ≤ v * (lo + i)) && decide (v * (lo + i) ≤ b)
/-! ### quotients -/
/-- a quotient, divided down -/
def downI (a b : Int) : Int := if a.tmod b ≠ 0 ∧ (a < 0 ↔ ¬ b < 0) then a.tdiv b - 1 else a.tdiv b
theorem div_pos {a b d : Int} (hb : 0 < b) (h1 : b * d ≤ a) (h2 : a < b * d + b) (q : Int) : q ≤ d ↔ b * q ≤ a := by
  constructor
  · intro h
    have := Int.mul_le_mul_of_nonneg_left h (Int.le_of_lt hb)
    omega
  · intro h
    rcases (show q ≤ d ∨ d + 1 ≤ q by omega) with h3 | h3
    · exact h3
    · have := Int.mul_le_mul_of_nonneg_left h3 (Int.le_of_lt hb)
      rw [Int.mul_add, Int.mul_one] at this
      omega
theorem div_neg {a b d : Int} (hb : b < 0) (h1 : a ≤ b * d) (h2 : b * d + b < a) (q : Int) : q ≤ d ↔ a ≤ b * q := by
  constructor
  · intro h
    have := Int.mul_le_mul_of_nonpos_left (Int.le_of_lt hb) h
    omega
  · intro h
    rcases (show q ≤ d ∨ d + 1 ≤ q by omega) with h3 | h3
    · exact h3
    · have := Int.mul_le_mul_of_nonpos_left (Int.le_of_lt hb) h3
      rw [Int.mul_add, Int.mul_one] at this
      omega
theorem tmod_facts (a b : Int) (hb : b ≠ 0) : b * a.tdiv b + a.tmod b = a ∧ (0 ≤ a → 0 ≤ a.tmod b) ∧ (a ≤ 0 → a.tmod b ≤ 0) ∧ (a.tmod b < b ∨ a.tmod b < -b) ∧ (-b < a.tmod b ∨ b < a.tmod b) := by
  refine ⟨Int.mul_tdiv_add_tmod a b, fun h => Int.tmod_nonneg b h, fun h => ?_, ?_⟩
  · have := Int.tmod_nonneg b (show 0 ≤ -a by omega)
    rw [Int.neg_tmod] at this; omega
  · have h1 : (a.tmod b).natAbs < b.natAbs := by
      rw [Int.natAbs_tmod]; exact Nat.mod_lt _ (by omega)
    omega
theorem downI_spec (a b : Int) (hb : b ≠ 0) (q : Int) : (0 < b → (q ≤ downI a b ↔ b * q ≤ a)) ∧ (b < 0 → (q ≤ downI a b ↔ a ≤ b * q)) := by
  obtain ⟨h1, h2, h3, h4, h5⟩ := tmod_facts a b hb
  unfold downI
  generalize a.tmod b = r at *
  generalize a.tdiv b = d at *
  constructor
  · intro h
    split
    · rename_i hc
      refine div_pos h ?_ ?_ q <;> rw [Int.mul_sub, Int.mul_one] <;> omega
    · rename_i hc
      refine div_pos h ?_ ?_ q <;> omega
  · intro h
    split
    · rename_i hc
      refine div_neg h ?_ ?_ q <;> rw [Int.mul_sub, Int.mul_one] <;> omega
    · rename_i hc
      refine div_neg h ?_ ?_ q <;> omega
def upI (a b : Int) : Int := -downI (-a) b
theorem upI_spec (a b : Int) (hb : b ≠ 0) (q : Int) : (0 < b → (upI a b ≤ q ↔ a ≤ b * q)) ∧ (b < 0 → (upI a b ≤ q ↔ b * q ≤ a)) := by
  obtain ⟨h1, h2⟩ := downI_spec (-a) b hb (-q)
  rw [Int.mul_neg] at h1 h2
  unfold upI
  constructor
  · intro h; have := h1 h; omega
  · intro h; have := h2 h; omega
/-- has v a w with v times w between a and b: as the program asks -/
def hasQ (v lo hi a b : Int) : Bool :=
  if 0 < v then decide (max lo (upI a v) ≤ min hi (downI b v)) else if v < 0 then decide (max lo (upI b v) ≤ min hi (downI a v)) else !(decide (0 < a) || decide (b < 0)) && decide (lo ≤ hi)
theorem hasW_iff (v lo hi a b : Int) : hasW v lo hi a b = true ↔ ∃ w, lo ≤ w ∧ w ≤ hi ∧ a ≤ v * w ∧ v * w ≤ b := by
  unfold hasW
  rw [List.any_eq_true]
  constructor
  · rintro ⟨i, h1, h2⟩
    rw [List.mem_range] at h1
    simp at h2
    exact ⟨lo + i, by omega, by omega, h2.1, h2.2⟩
  · rintro ⟨w, h1, h2, h3, h4⟩
    refine ⟨(w - lo).toNat, List.mem_range.2 (by omega), ?_⟩
    have e : lo + ((w - lo).toNat : Int) = w := by omega
    rw [e]; simp [h3, h4]
theorem hasQ_eq (v lo hi a b : Int) : hasQ v lo hi a b = hasW v lo hi a b := by
  rw [Bool.eq_iff_iff, hasW_iff]
  unfold hasQ
  by_cases h1 : 0 < v
  · rw [if_pos h1]
    simp only [decide_eq_true_eq]
    constructor
    · intro h
      exact ⟨max lo (upI a v), by omega, by omega, ((upI_spec a v (by omega) _).1 h1).1 (by omega), ((downI_spec b v (by omega) _).1 h1).1 (by omega)⟩
    · rintro ⟨w, g1, g2, g3, g4⟩
      have := ((upI_spec a v (by omega) w).1 h1).2 g3
      have := ((downI_spec b v (by omega) w).1 h1).2 g4
      omega
  · rw [if_neg h1]
    by_cases h2 : v < 0
    · rw [if_pos h2]
      simp only [decide_eq_true_eq]
      constructor
      · intro h
        exact ⟨max lo (upI b v), by omega, by omega, ((downI_spec a v (by omega) _).2 h2).1 (by omega), ((upI_spec b v (by omega) _).2 h2).1 (by omega)⟩
      · rintro ⟨w, g1, g2, g3, g4⟩
        have := ((upI_spec b v (by omega) w).2 h2).2 g4
        have := ((downI_spec a v (by omega) w).2 h2).2 g3
        omega
    · rw [if_neg h2]
      obtain rfl : v = 0 := by omega
      simp
      constructor
      · rintro ⟨⟨g1, g2⟩, g3⟩; exact ⟨lo, by omega, by omega, by omega, by omega⟩
      · rintro ⟨w, g1, g2, g3, g4⟩; omega

def linKs (rel c : Int) (ps : Ps) (vars : List Int) (was : Ds) : Option Ks := (onceL rel c was ps).map fun o => vars.map fun v => (v, domOf o v)
def factorsL (d : List Rg) (lo hi a b : Int) : List Rg := canon fun v => memL d v && hasW v lo hi a b
def loD (d : List Rg) : Int := (endsL (norm d)).1
def hiD (d : List Rg) : Int := (endsL (norm d)).2.1
def min4 (a b c d : Int) : Int := min (min (min a b) c) d
def max4 (a b c d : Int) : Int := max (max (max a b) c) d
def prodR (X Y : List Rg) : List Rg := [(min4 (loD X * loD Y) (loD X * hiD Y) (hiD X * loD Y) (hiD X * hiD Y), max4 (loD X * loD Y) (loD X * hiD Y) (hiD X * loD Y) (hiD X * hiD Y))]
def prodKs (x y z : Int) (was : Ds) : Ks :=
  [(x, factorsL (domOf was x) (loD (domOf was y)) (hiD (domOf was y)) (loD (domOf was z)) (hiD (domOf was z))),
   (y, factorsL (domOf was y) (loD (domOf was x)) (hiD (domOf was x)) (loD (domOf was z)) (hiD (domOf was z))),
   (z, prodR (domOf was x) (domOf was y))]
def diffAt (l : List Int) (was : Ds) (i m : Nat) : Ks :=
  if sizeL (norm (domOf was (l.getD i 0))) = 1 then (List.range m).flatMap (fun k => if k = i then [] else [(l.getD k 0, complL (domOf was (l.getD i 0)))]) else []
def diffTo (l : List Int) (was : Ds) (i : Nat) : Ks := (List.range i).flatMap fun i => diffAt l was i l.length
def mayL (s : Int) : List Rg := if s = 1 then [(1, 1)] else if s = -1 then [(0, 0)] else [(0, 1)]
def notRel (r : Int) : Int := if r = 1 then 2 else if r = 2 then 1 else r
def notC (r c : Int) : Int := if r = 1 ∨ r = 2 then c else -c - 1
def notCoef (r : Int) (coef : List Int) : List Int := if r = 1 ∨ r = 2 then coef else coef.map fun k => -k
def reifKs (x rel c : Int) (coef vars : List Int) (was : Ds) : Option Ks :=
  let one := inD 1 && memL (domOf was x) 1
  let nought := inD 0 && memL (domOf was x) 0
  let may : Int × List Rg := (x, mayL (saysL rel c was (coef.zip vars)))
  if (one && !nought) = true then (linKs rel c (coef.zip vars) vars was).map fun ks => may :: ks
  else if (nought && !one) = true then (linKs (notRel rel) (notC rel c) ((notCoef rel coef).zip vars) vars was).map fun ks => may :: ks
  else some [may]
def PL.all (p : PL) : List Int := allL p.kind p.vars p.x p.y p.z p.vs
def narrowKs (p : PL) (was : Ds) : Option Ks :=
  if p.kind = 1 then linKs p.rel p.c (p.coef.zip p.vars) p.vars was
  else if p.kind = 2 then some (prodKs p.x p.y p.z was)
  else if p.kind = 3 then some (diffTo p.vs was p.vs.length)
  else reifKs p.x p.rel p.c p.coef p.vars was
def anyNil (l : List Int) (ds : Ds) : Bool := l.any fun v => decide (domOf ds v = [])
/-- WHAT A CONSTRAINT SAYS ONCE -/
def onceP (p : PL) (ds : Ds) : Option Ds :=
  if anyNil p.all (ds.map norm) = true then none
  else match narrowKs p (ds.map norm) with
    | none => none
    | some ks => if anyNil p.all (keepsL ks (ds.map norm)) = true then none else some (keepsL ks (ds.map norm))
theorem diffAt_snoc (l : List Int) (was : Ds) (i m : Nat) (h : sizeL (norm (domOf was (l.getD i 0))) = 1) : diffAt l was i (m + 1) = diffAt l was i m ++ (if m = i then [] else [(l.getD m 0, complL (domOf was (l.getD i 0)))]) := by
  unfold diffAt
  rw [if_pos h, if_pos h, List.range_succ, List.flatMap_append]
  simp
theorem diffTo_snoc (l : List Int) (was : Ds) (i : Nat) : diffTo l was (i + 1) = diffTo l was i ++ diffAt l was i l.length := by
  unfold diffTo
  rw [List.range_succ, List.flatMap_append]
  simp
end Go.Proofs.YtaekdgikgbdnnaaGreat
namespace Go.Proofs.YtaekdgikgbdnnaaGreat
open Go.RowKit

set_option maxRecDepth 100000 in
theorem clone_n (va : Value) (a : List Rg) (w : World) (ha : RgAt w va a) (hla : a.length ≤ 4096) :
    Calls Tryz.prog 90 #[va] w (RetN a w) := by
  obtain ⟨i0, hi, hz0, hz1, hz2⟩ := info_parts Tryz.infoRg
  obtain ⟨ao, cap, rfl, _⟩ := ha.shape
  have q22 : ∀ (w : World) (a : Option Addr) (n c n' c' : Nat), (binOp .eql 61 (.slice a n c) (.slice none n' c')).run Tryz.prog w = .ok (.bool a.isNone) w := fun w a n c n' c' => Lib.run_eql_slice_nil w _ _ a n c n' c' Tryz.underlying61
  have H := Lib.hid ha
  have hc := SlAt.none_cap ha
  have hs := ha.shape
  cases ao with
  | none =>
    have h0 : cap = 0 := hc rfl
    subst h0
    obtain ⟨_, _, he, h1, _⟩ := hs
    simp only [Value.slice.injEq, true_and] at he
    obtain ⟨rfl, rfl⟩ := he
    have h2 : a = [] := List.eq_nil_of_length_eq_zero (by omega)
    subst h2
    clear h1 hc ha H
    go_enter Tryz.func90, Tryz.ntmps90
    go_wp2
    go_ret
    exact ⟨none, 0, rfl, RgAt.nil, Below.refl _ _, fun b hb => by cases hb⟩
  | some ad =>
    clear hc ha hs
    have HM : Hid ((w.alloc (.cells #[] 77)).ownsRow w.heap.size 77 2 (.slice (some ⟨w.heap.size, 0, none⟩) 0 0) 0 []) := World.ownsRow_made w #[] 0 (Nat.le_refl _) (by decide) rfl
    have HB : Hid (Below w.heap.size w (w.alloc (.cells #[] 77))) := (Below.refl _ _).alloc (Nat.le_refl _) _
    go_enter Tryz.func90, Tryz.ntmps90
    go_wp2_with (at_builtin; refine wpList_append_sl rfl (.tmp 5) (.tmp 6) 61 rfl w.heap.size 77 i0 (.agg #[.int .i64 0, .int .i64 0]) 2 16 Tryz.underlying61 hi hz0 hz1 hz2 rfl (by decide) _ 0 [] rfl HM.out _ a.length _ rfl (SlAt.below H.out HB.out) (cellsR_one a) (by omega) (by simp) ?_; intro v1 w1 o1 b1 _)
    rw [Nat.zero_add, List.nil_append] at o1
    have hn : ∀ b, v1.ownBlock = some b → w.heap.size ≤ b := ownBlock_ge o1
    obtain ⟨oa, oc, rfl, _⟩ := (SlAt.of_own o1).shape
    have hb := Lib.hid (HB.out.trans b1)
    have hs := Lib.hid (RgAt.own o1)
    have hn2 := Lib.hid hn
    clear o1 b1 hn
    go_ret
    exact ⟨_, _, rfl, hs.out, hb.out, hn2.out⟩

/-- the list of integers L, in new memory -/
def RetI (L : List Int) (w : World) (e : Ending) (w' : World) : Prop := ∃ ao cap, e = .returned (.slice ao L.length cap) ∧ IsAt w' (.slice ao L.length cap) L ∧ (∃ B, w'.ownsRow B 3 1 (.slice ao L.length cap) L.length (L.map (Value.int .i64)) ∧ w.heap.size ≤ B) ∧ Below w.heap.size w w'

set_option maxRecDepth 100000 in
theorem cloneI_n (va : Value) (a : List Int) (w : World) (ha : IsAt w va a) (hla : a.length ≤ 4096) :
    Calls Tryz.prog 176 #[va] w (RetI a w) := by
  obtain ⟨i0, hi, hz0, hz1, hz2⟩ := info_parts Tryz.infoIntR
  obtain ⟨ao, cap, rfl, _⟩ := SlAt.shape ha
  have q22 : ∀ (w : World) (a : Option Addr) (n c n' c' : Nat), (binOp .eql 26 (.slice a n c) (.slice none n' c')).run Tryz.prog w = .ok (.bool a.isNone) w := fun w a n c n' c' => Lib.run_eql_slice_nil w _ _ a n c n' c' Tryz.underlying26
  have H := Lib.hid ha
  have hc := SlAt.none_cap ha
  have hs := SlAt.shape ha
  cases ao with
  | none =>
    have h0 : cap = 0 := hc rfl
    subst h0
    obtain ⟨_, _, he, h1, _⟩ := hs
    simp only [Value.slice.injEq, true_and] at he
    obtain ⟨rfl, rfl⟩ := he
    have h2 : a = [] := List.eq_nil_of_length_eq_zero (by omega)
    subst h2
    clear h1 hc ha H
    go_enter Tryz.func176, Tryz.ntmps176
    go_wp2
    go_ret
    exact ⟨none, 0, rfl, SlAt.nil, ⟨w.heap.size, ⟨rfl, .inl ⟨rfl, rfl⟩⟩, Nat.le_refl _⟩, Below.refl _ _⟩
  | some ad =>
    clear hc ha hs
    have HM : Hid ((w.alloc (.cells #[] 3)).ownsRow w.heap.size 3 1 (.slice (some ⟨w.heap.size, 0, none⟩) 0 0) 0 []) := World.ownsRow_made w #[] 0 (Nat.le_refl _) (by decide) rfl
    have HB : Hid (Below w.heap.size w (w.alloc (.cells #[] 3))) := (Below.refl _ _).alloc (Nat.le_refl _) _
    go_enter Tryz.func176, Tryz.ntmps176
    go_wp2_with (at_builtin; refine wpList_append_sl rfl (.tmp 5) (.tmp 6) 26 rfl w.heap.size 3 i0 (.int .i64 0) 1 8 Tryz.underlying26 hi hz0 hz1 hz2 rfl (by decide) _ 0 [] rfl HM.out _ a.length _ rfl (SlAt.below H.out HB.out) (one_ints a) (by omega) (by simp) ?_; intro v1 w1 o1 b1 _)
    rw [Nat.zero_add, List.nil_append] at o1
    obtain ⟨oa, oc, rfl, _⟩ := (SlAt.of_own o1).shape
    have hb := Lib.hid (HB.out.trans b1)
    have hs := Lib.hid o1
    clear o1 b1
    go_ret
    exact ⟨_, _, rfl, SlAt.of_own hs.out, ⟨_, hs.out, Nat.le_refl _⟩, hb.out⟩

/-- a quotient, divided down -/
theorem beqf' {a b : Int} (h : a ≠ b) : (a == b) = false := beq_eq_false_iff_ne.2 h
theorem down_c (a b : Int) (hb : b ≠ 0) (ha : -100000 ≤ a ∧ a ≤ 100000) (_hb2 : -100000 ≤ b ∧ b ≤ 100000) (w : World) :
    Calls Tryz.prog 188 #[.int .i64 a, .int .i64 b] w fun e w' => e = .returned (.int .i64 (downI a b)) ∧ w = w' := by
  have h1 : -100000 ≤ a.tdiv b ∧ a.tdiv b ≤ 100000 := by
    have := Int.natAbs_tdiv a b
    have h2 : (a.tdiv b).natAbs ≤ a.natAbs := by rw [this]; exact Nat.div_le_self _ _
    omega
  have hz : (b == 0) = false := beqf' hb
  unfold downI
  by_cases g1 : a.tmod b = 0
  · rw [if_neg (fun h => h.1 g1)]
    go_enter Tryz.func188, Tryz.ntmps188
    go_wp2
    go_ret
    exact ⟨rfl, rfl⟩
  · have g1' : (a.tmod b == 0) = false := beqf' g1
    have k1 : 0 ≤ a → ¬ a % b = 0 := fun h => by rw [← Int.tmod_eq_emod_of_nonneg h]; exact g1
    by_cases g2 : a < 0
    · by_cases g3 : b < 0
      · rw [if_neg (fun h => (h.2.1 g2) g3)]
        go_enter Tryz.func188, Tryz.ntmps188
        go_wp2
        go_ret
        exact ⟨rfl, rfl⟩
      · rw [if_pos ⟨g1, fun _ => g3, fun _ => g2⟩]
        go_enter Tryz.func188, Tryz.ntmps188
        go_wp2
        go_ret
        exact ⟨rfl, rfl⟩
    · have k2 := k1 (by omega)
      have k3 : (a % b == 0) = false := beqf' k2
      have k4 : (a % b != 0) = true := by simpa using k2
      by_cases g3 : b < 0
      · rw [if_pos ⟨g1, fun h => absurd h g2, fun h => absurd g3 h⟩]
        go_enter Tryz.func188, Tryz.ntmps188
        go_wp2
        go_ret
        exact ⟨rfl, rfl⟩
      · rw [if_neg (fun h => g2 (h.2.2 g3))]
        go_enter Tryz.func188, Tryz.ntmps188
        go_wp2
        go_ret
        exact ⟨rfl, rfl⟩

set_option maxRecDepth 100000 in
theorem up_c (a b : Int) (hb : b ≠ 0) (ha : -100000 ≤ a ∧ a ≤ 100000) (hb2 : -100000 ≤ b ∧ b ≤ 100000) (w : World) :
    Calls Tryz.prog 187 #[.int .i64 a, .int .i64 b] w fun e w' => e = .returned (.int .i64 (upI a b)) ∧ w = w' := by
  have CD := Lib.hid (down_c (-a) b hb (by omega) hb2 w)
  have hbd : -100001 ≤ downI (-a) b ∧ downI (-a) b ≤ 100000 := by
    have h1 : ((-a).tdiv b).natAbs ≤ (-a).natAbs := by rw [Int.natAbs_tdiv]; exact Nat.div_le_self _ _
    unfold downI; split <;> omega
  unfold upI
  generalize downI (-a) b = d at *
  go_enter Tryz.func187, Tryz.ntmps187
  go_wp2_with (go_at_call 188; (with_reducible refine CD.out.mono ?_); rintro e w' ⟨rfl, rfl⟩)
  go_ret
  exact ⟨rfl, rfl⟩

/-- append of two cells, telling which blocks stay, and where the row lies -/
theorem wpList_append2L {P : Program} {ops : Array Oper} {rest : List Oper} {o : Oper} {a : Act} {w : World} {Q : Exit → Act → World → Prop} (hgd : o.guard = none) (s x : Operand) (t : TypeId)
    (ho : o.op = .call { callee := .builtin .append, args := #[s, x], argTypes := #[t, t] })
    (base : Nat) (e : TypeId) (i : TypeInfo) (z : Value) (bytes : Nat) (ht : P.underlying t = some (.slice e)) (hi : P.info? e = some i) (hz : i.zero = some z)
    (hsize : i.size = 2) (hby : i.bytes = bytes) (hzs : z.cells.size = 2)
    (v : Value) (n : Nat) (xs : List Value) (hs : a.eval s = v) (hown : w.ownsRow base e 2 v n xs) {e' : TypeId}
    (u1 u2 : Value) {g0 : Nat} (hx : a.eval x = .slice (some ⟨g0, 0, none⟩) 1 1) (hg : w.heap.size = g0) (h1 : u1.oneCell' = true) (h2 : u2.oneCell' = true)
    (hbytes : (n + 1) * bytes ≤ 140737488355328 ∧ n + 1 ≤ 140737488355328) (hbase : base ≤ w.heap.size)
    (h : ∀ g cap w', w'.ownsRow base e 2 (.slice (some ⟨g, 0, none⟩) (n + 1) cap) (n + 1) (xs ++ [u1, u2]) → Below base w w' → KeepsBut w w' v → (v.ownBlock = some g ∨ w.heap.size ≤ g) → wpList P ops Q rest (a.put o.dst (.slice (some ⟨g, 0, none⟩) (n + 1) cap)) w') :
    wpList P ops Q (o :: rest) a (w.alloc (.cells #[u1, u2] e')) := by
  subst hg
  refine wpList_append_lies _ hgd s x t ho base e i z 2 bytes ht hi hz hsize hby hzs (by decide) v n xs hs (hown.alloc _) ⟨w.heap.size, 0, none⟩ 1 1 [u1, u2] hx rfl ?_ ?_ (by decide) ?_ hbytes.1 (by simp; omega) _ rfl ?_
  · intro j y hj
    match j, hj with
    | 0, hj => simp at hj; subst hj; simp [Addr.add]
    | 1, hj => simp at hj; subst hj; simp [Addr.add]
  · intro y hy; simp at hy; rcases hy with rfl | rfl <;> assumption
  · unfold maxLen; omega
  · intro g cap w' r1 r2 r3 _
    refine h g cap w' r1 (below_grown hbase r2 (ownBlock_ge hown)) (fun b hb hne => ?_) ?_
    · rw [r2.block b (by simp; omega) (fun he => hne he.symm)]
      exact Below.heap_alloc w _ b hb
    · rcases r3 with h3 | h3
      · exact .inl h3
      · right; rw [h3]; simp

theorem sizeL_le {D : List Rg} (h : Normal D) : 0 ≤ sizeL D ∧ sizeL D ≤ 402 := sizeL_bounds D (-200) (by decide) h
theorem factors_eq {D : List Rg} (lo hi a b : Int) : norm (goneL (fun v => hasQ v lo hi a b) D) = factorsL D lo hi a b := by
  unfold norm factorsL
  refine canon_congr fun n _ _ => ?_
  rw [goneL_mem, hasQ_eq]

set_option maxRecDepth 100000 in
set_option maxHeartbeats 3200000 in
theorem factors_c (va : Value) (D : List Rg) (lo hi a b : Int) (w : World) (hd : RgAt w va D) (hD : Normal D) (_h1 : -200 ≤ lo ∧ lo ≤ 200) (_h2 : -200 ≤ hi ∧ hi ≤ 200) (h3 : -200 ≤ a ∧ a ≤ 200) (h4 : -200 ≤ b ∧ b ≤ 200) :
    Calls Tryz.prog 184 #[va, .int .i64 lo, .int .i64 hi, .int .i64 a, .int .i64 b] w (RetR (factorsL D lo hi a b) w) := by
  obtain ⟨i0, hi0, hz0, hz1, hz2⟩ := info_parts Tryz.infoRg
  obtain ⟨ao, cap, rfl, _⟩ := hd.shape
  have HD := Lib.hid hd
  have HBD := Lib.hid hD.bounds
  have hDl := normal_len hD
  obtain ⟨p, hp⟩ : ∃ p : Int → Bool, p = fun v => hasQ v lo hi a b := ⟨_, rfl⟩
  have HG : Hid (∀ k, ((goneL (fun v => hasQ v lo hi a b) (D.take k)).length : Int) ≤ 402) := fun k => by
    have h1 := goneL_len (fun v => hasQ v lo hi a b) (D.take k) (fun r hr => (hD.bounds r (List.mem_of_mem_take hr)).2.1)
    have h2 := sizeL_le (D := D.take k) (normal_take hD k)
    omega
  have HE := Lib.hid (factors_eq (D := D) lo hi a b)
  generalize factorsL D lo hi a b = R at *
  have HS := Lib.hid (goneL_step (fun v => hasQ v lo hi a b) D)
  have CU := Lib.hid (fun (x v : Int) (W : World) (hx : -200 ≤ x ∧ x ≤ 200) (hv : -200 ≤ v ∧ v ≤ 200) (h0 : v ≠ 0) => up_c x v h0 (by omega) (by omega) W)
  have CD := Lib.hid (fun (x v : Int) (W : World) (hx : -200 ≤ x ∧ x ≤ 200) (hv : -200 ≤ v ∧ v ≤ 200) (h0 : v ≠ 0) => down_c x v h0 (by omega) (by omega) W)
  have HQ : Hid (∀ v, p v = if 0 < v then decide (max lo (upI a v) ≤ min hi (downI b v)) else if v < 0 then decide (max lo (upI b v) ≤ min hi (downI a v)) else !(decide (0 < a) || decide (b < 0)) && decide (lo ≤ hi)) := fun v => by rw [hp]; rfl
  rw [← hp] at HG HE HS
  clear hd hD hp
  go_enter Tryz.func184, Tryz.ntmps184
  go_wp2
  go_loopw [11, 19] (fun o s wr => ∃ k : Nat, k ≤ D.length ∧ s = .int .i64 k ∧ wr.ownsRow w.heap.size 77 2 o (goneL p (D.take k)).length (cellsR (goneL p (D.take k))) ∧ Below w.heap.size w wr) (fun _ s _ => D.length - (intOf s).toNat)
  case atStart => exact ⟨0, by omega, rfl, World.ownsRow_nil _ _ _ _, Below.refl _ _⟩
  case round =>
    obtain ⟨k, hk, rfl, hown, hbel⟩ := hrel
    have HB := Lib.hid hbel
    have hle := hbel.size
    clear hbel
    by_cases hlt : k < D.length
    · obtain ⟨bd, od, cd, he, _, hbd, hcs⟩ := RgAt.at HD.out (by omega)
      simp only [Value.slice.injEq, true_and] at he
      obtain ⟨rfl, rfl⟩ := he
      obtain ⟨c0, c1⟩ := hcs k hlt
      rw [← HB.out.cell (p := ⟨bd, od + k * 2, none⟩) hbd] at c0
      rw [← HB.out.cell (p := ⟨bd, od + k * 2 + 1, none⟩) hbd] at c1
      have S1 := Lib.hid (HS.out k hlt)
      have hg1 := HG.out (k + 1)
      obtain ⟨hr1, hr2, hr3⟩ := HBD.out D[k] (List.getElem_mem hlt)
      have j1 : (k : Int) < D.length := by omega
      have hRl := Lib.hid (runG_len p D[k].1)
      clear hcs
      rw [S1.out, List.length_append] at hg1
      generalize D[k] = r at *
      obtain ⟨r1, r2⟩ := r
      dsimp only at *
      generalize goneL p (D.take k) = G at *
      obtain ⟨wo, rfl⟩ : ∃ wo : World, wo = wr := ⟨_, rfl⟩
      have HX0 := Lib.hid (Box2.mk' wo (.int .i64 r1) (.int .i64 r2) 77)
      have hne0 := own_far hown (Nat.le_refl _)
      go_wp2
      go_loopw [11, 14] (fun o s wi => ∃ j : Nat, r1 + j ≤ r2 + 1 ∧ s = .int .i64 (r1 + j) ∧ wi.ownsRow w.heap.size 77 2 o (G ++ runG p r1 j).length (cellsR (G ++ runG p r1 j)) ∧ Hid (Box2 wi wo.heap.size (.int .i64 r1) (.int .i64 r2)) ∧ o.ownBlock ≠ some wo.heap.size ∧ Hid (Below w.heap.size w wi)) (fun _ s _ => (r2 + 1 - intOf s).toNat)
      case atStart => exact ⟨0, by omega, by simp, by simpa [runG] using hown.alloc _, HX0, hne0, Lib.hid (HB.out.alloc hle _)⟩
      case round =>
        clear HX0 hne0 c0 c1 hown
        obtain ⟨j, hj, rfl, hown, HX, hne, HB1⟩ := hrel
        obtain ⟨xc0, xc1, xf0, xf1⟩ := HX.out
        have hle1 := HB1.out.size
        by_cases hlt2 : r1 + j ≤ r2
        · obtain ⟨v, hv⟩ : ∃ v, v = r1 + (j : Int) := ⟨_, rfl⟩
          have hvb : -200 ≤ v ∧ v ≤ 200 := by omega
          have S2 : Hid (G ++ runG p r1 (j + 1) = G ++ runG p r1 j ++ (if p v = true then [(v, v)] else [])) := by show _ = _; rw [hv, List.append_assoc]; rfl
          have hl2 : (G ++ runG p r1 j).length ≤ 1000 := by have := hRl.out j; rw [List.length_append]; omega
          rw [← hv]
          have hm : (r2 + 1 - (v + 1)).toNat < (r2 + 1 - v).toNat := by omega
          have hv1 : r1 + ((j + 1 : Nat) : Int) = v + 1 := by omega
          have hvr : v ≤ r2 := by omega
          have HV := Lib.hid hv
          clear hv
          generalize G ++ runG p r1 j = O at *
          clear hRl
          by_cases hs : 0 < v
          · have CU1 : Hid (∀ W, Calls Tryz.prog 187 #[.int .i64 a, .int .i64 v] W fun e w' => e = .returned (.int .i64 (upI a v)) ∧ W = w') := fun W => CU.out a v W (by omega) (by omega) (by omega)
            have CD1 : Hid (∀ W, Calls Tryz.prog 188 #[.int .i64 b, .int .i64 v] W fun e w' => e = .returned (.int .i64 (downI b v)) ∧ W = w') := fun W => CD.out b v W (by omega) (by omega) (by omega)
            have hq := HQ.out v
            rw [if_pos hs] at hq
            generalize upI a v = U at *
            generalize downI b v = L at *
            by_cases hc : max lo U ≤ min hi L
            · have hq1 : p v = true := by rw [hq]; simpa using hc
              rw [if_pos hq1] at S2
              clear hq hq1
              go_wp2_with (first
                | (go_at_call 187; (with_reducible refine (CU1.out _).mono ?_); rintro e w' ⟨rfl, rfl⟩)
                | (go_at_call 188; (with_reducible refine (CD1.out _).mono ?_); rintro e w' ⟨rfl, rfl⟩)
                | (at_builtin; refine wpList_append2L rfl (.tmp 69) (.tmp 73) 61 rfl w.heap.size 77 i0 (.agg #[.int .i64 0, .int .i64 0]) 16 Tryz.underlying61 hi0 hz0 hz1 hz2 rfl _ _ _ rfl hown (.int .i64 v) (.int .i64 v) rfl rfl rfl rfl (by omega) (by omega) ?_; intro g1 cap1 w1 ow bw kw aw))
              exact ⟨⟨j + 1, by omega, by rw [hv1]; try rfl, by rw [S2.out, cellsR_append, List.length_append]; exact ow, HX.out.kept kw hne, fun he => by
                rcases aw with h | h
                · exact hne (h.trans (by simpa [Value.ownBlock] using he))
                · have h1 := HX.out.lt
                  simp [Value.ownBlock] at he; omega, HB1.out.trans (bw.mono (Nat.le_refl _))⟩, by simp [intOf]; omega⟩
            · have hq1 : ¬ p v = true := by rw [hq]; simpa using hc
              rw [if_neg hq1, List.append_nil] at S2
              clear hq hq1
              go_wp2_with (first
                | (go_at_call 187; (with_reducible refine (CU1.out _).mono ?_); rintro e w' ⟨rfl, rfl⟩)
                | (go_at_call 188; (with_reducible refine (CD1.out _).mono ?_); rintro e w' ⟨rfl, rfl⟩))
              exact ⟨⟨j + 1, by omega, by rw [hv1]; try rfl, by rw [S2.out]; exact hown, HX.out, hne, HB1.out⟩, by simp [intOf]; omega⟩
          · by_cases hs2 : v < 0
            · have CU1 : Hid (∀ W, Calls Tryz.prog 187 #[.int .i64 b, .int .i64 v] W fun e w' => e = .returned (.int .i64 (upI b v)) ∧ W = w') := fun W => CU.out b v W (by omega) (by omega) (by omega)
              have CD1 : Hid (∀ W, Calls Tryz.prog 188 #[.int .i64 a, .int .i64 v] W fun e w' => e = .returned (.int .i64 (downI a v)) ∧ W = w') := fun W => CD.out a v W (by omega) (by omega) (by omega)
              have hq := HQ.out v
              rw [if_neg hs, if_pos hs2] at hq
              generalize upI b v = U at *
              generalize downI a v = L at *
              by_cases hc : max lo U ≤ min hi L
              · have hq1 : p v = true := by rw [hq]; simpa using hc
                rw [if_pos hq1] at S2
                clear hq hq1
                go_wp2_with (first
                  | (go_at_call 187; (with_reducible refine (CU1.out _).mono ?_); rintro e w' ⟨rfl, rfl⟩)
                  | (go_at_call 188; (with_reducible refine (CD1.out _).mono ?_); rintro e w' ⟨rfl, rfl⟩)
                  | (at_builtin; refine wpList_append2L rfl (.tmp 69) (.tmp 73) 61 rfl w.heap.size 77 i0 (.agg #[.int .i64 0, .int .i64 0]) 16 Tryz.underlying61 hi0 hz0 hz1 hz2 rfl _ _ _ rfl hown (.int .i64 v) (.int .i64 v) rfl rfl rfl rfl (by omega) (by omega) ?_; intro g1 cap1 w1 ow bw kw aw))
                exact ⟨⟨j + 1, by omega, by rw [hv1]; try rfl, by rw [S2.out, cellsR_append, List.length_append]; exact ow, HX.out.kept kw hne, fun he => by
                  rcases aw with h | h
                  · exact hne (h.trans (by simpa [Value.ownBlock] using he))
                  · have h1 := HX.out.lt
                    simp [Value.ownBlock] at he; omega, HB1.out.trans (bw.mono (Nat.le_refl _))⟩, by simp [intOf]; omega⟩
              · have hq1 : ¬ p v = true := by rw [hq]; simpa using hc
                rw [if_neg hq1, List.append_nil] at S2
                clear hq hq1
                go_wp2_with (first
                  | (go_at_call 187; (with_reducible refine (CU1.out _).mono ?_); rintro e w' ⟨rfl, rfl⟩)
                  | (go_at_call 188; (with_reducible refine (CD1.out _).mono ?_); rintro e w' ⟨rfl, rfl⟩))
                exact ⟨⟨j + 1, by omega, by rw [hv1]; try rfl, by rw [S2.out]; exact hown, HX.out, hne, HB1.out⟩, by simp [intOf]; omega⟩
            · obtain rfl : v = 0 := by omega
              have hq := HQ.out 0
              simp only [Int.lt_irrefl, if_false] at hq
              by_cases hc : a ≤ 0 ∧ 0 ≤ b ∧ lo ≤ hi
              · have hq1 : p 0 = true := by rw [hq]; simp; omega
                rw [if_pos hq1] at S2
                clear hq hq1
                obtain ⟨hca, hcb, hcl⟩ := hc
                go_wp2_with ((at_builtin; refine wpList_append2L rfl (.tmp 69) (.tmp 73) 61 rfl w.heap.size 77 i0 (.agg #[.int .i64 0, .int .i64 0]) 16 Tryz.underlying61 hi0 hz0 hz1 hz2 rfl _ _ _ rfl hown (.int .i64 0) (.int .i64 0) rfl rfl rfl rfl (by omega) (by omega) ?_; intro g1 cap1 w1 ow bw kw aw))
                exact ⟨⟨j + 1, by omega, by rw [hv1]; try rfl, by rw [S2.out, cellsR_append, List.length_append]; exact ow, HX.out.kept kw hne, fun he => by
              rcases aw with h | h
              · exact hne (h.trans (by simpa [Value.ownBlock] using he))
              · have h1 := HX.out.lt
                simp [Value.ownBlock] at he; omega, HB1.out.trans (bw.mono (Nat.le_refl _))⟩, by simp [intOf]; omega⟩
              · have hq1 : ¬ p 0 = true := by rw [hq]; simp; omega
                rw [if_neg hq1, List.append_nil] at S2
                clear hq hq1
                by_cases hc1 : 0 < a
                · go_wp2
                  exact ⟨⟨j + 1, by omega, by rw [hv1]; try rfl, by rw [S2.out]; exact hown, HX.out, hne, HB1.out⟩, by simp [intOf]; omega⟩
                · by_cases hc2 : b < 0
                  · go_wp2
                    exact ⟨⟨j + 1, by omega, by rw [hv1]; try rfl, by rw [S2.out]; exact hown, HX.out, hne, HB1.out⟩, by simp [intOf]; omega⟩
                  · have hc3 : ¬ lo ≤ hi := by omega
                    go_wp2
                    exact ⟨⟨j + 1, by omega, by rw [hv1]; try rfl, by rw [S2.out]; exact hown, HX.out, hne, HB1.out⟩, by simp [intOf]; omega⟩
        · obtain ⟨jj, hjj⟩ : ∃ jj : Int, jj = r1 + j := ⟨_, rfl⟩
          have hjn : j = (r2 + 1 - r1).toNat := by omega
          rw [hjn, ← S1.out] at hown
          have hjr : r2 < r1 + (j : Int) := by omega
          go_wp2
          exact ⟨⟨k + 1, by omega, by go_num, hown, HB1.out⟩, by simp [intOf]; omega⟩
    · obtain rfl : k = D.length := by omega
      rw [List.take_length] at hown
      have hg := HG.out D.length
      rw [List.take_length] at hg
      have CN := Lib.hid (norm_c _ (goneL p D) wr (RgAt.own hown) (by omega))
      rw [HE.out] at CN
      go_wp2_with (go_at_call 54; (with_reducible refine CN.out.mono ?_); rintro e W3 ⟨a3, c3, rfl, r3, b3⟩)
      go_ret
      exact ⟨_, _, rfl, r3, HB.out.trans (b3.mono hle)⟩
end Go.Proofs.YtaekdgikgbdnnaaGreat
namespace Go.Proofs.YtaekdgikgbdnnaaGreat
open Go.RowKit

/-- whatever is not in block g stays -/
def Stay (W W' : World) (g : Nat) : Prop := W.heap.size ≤ W'.heap.size ∧ ∀ b, b < W.heap.size → b ≠ g → W'.heap[b]? = W.heap[b]?
theorem Stay.refl (W : World) (g : Nat) : Stay W W g := ⟨Nat.le_refl _, fun _ _ _ => rfl⟩
theorem Stay.trans {a b c : World} {g : Nat} (h : Stay a b g) (k : Stay b c g) : Stay a c g := ⟨Nat.le_trans h.1 k.1, fun i h1 h2 => (k.2 i (Nat.lt_of_lt_of_le h1 h.1) h2).trans (h.2 i h1 h2)⟩
theorem Stay.of_below {W W' : World} {g : Nat} (h : Below W.heap.size W W') : Stay W W' g := ⟨h.size, fun b hb _ => h.block b hb⟩
theorem Stay.cell {W W' : World} {g : Nat} (h : Stay W W' g) {p : Addr} (hl : p.block < W.heap.size) (hne : p.block ≠ g) : W'.cell? p = W.cell? p := World.cell?_of_block (h.2 p.block hl hne)
theorem Stay.setCell {W W' : World} {g : Nat} (h : Stay W W' g) (j : Nat) (u : Value) : Stay W (W'.setCell ⟨g, j, none⟩ u) g :=
  ⟨by simpa [World.setCell] using h.1, fun b hb hne => (Below.heap_setCell _ _ _ _ (by simpa using hne)).trans (h.2 b hb hne)⟩
theorem Stay.drewN {W W' : World} {g : Nat} (h : Stay W W' g) (q : Nat) : Stay W (W'.drewN q) g := h
theorem Box1.stay {W W' : World} {b g : Nat} {x : Value} (h : Box1 W b x) (hs : Stay W W' g) (hne : b ≠ g) : Box1 W' b x :=
  ⟨(World.cell?_of_block (a := ⟨b, 0, none⟩) (hs.2 b h.lt hne)).trans h.c0, (World.frozen?_of_block (a := ⟨b, 0, none⟩) (hs.2 b h.lt hne)).trans h.f0⟩
theorem BoxL.stay {W W' : World} {b g : Nat} {cs : List Value} (h : BoxL W b cs) (hp : 0 < cs.length) (hs : Stay W W' g) (hne : b ≠ g) : BoxL W' b cs := h.block (hs.2 b (h.lt hp) hne)

/-- the sets that are narrowed: an own list, in a box -/
structure OutAt (W : World) (B bo g : Nat) (out : Ds) : Prop where
  own : DsOwn W B (.slice (some ⟨g, 0, none⟩) out.length out.length) out
  box : Box1 W bo (.slice (some ⟨g, 0, none⟩) out.length out.length)
  ne : bo ≠ g
  low : B ≤ bo
  gl : B ≤ g
  len : ∀ d ∈ out, d.length ≤ 4096
  new : ∀ j, (hj : j < out.length) → ∀ u, W.cell? ⟨g, j, none⟩ = some u → ∀ b, u.ownBlock = some b → B ≤ b
theorem OutAt.below {W W' : World} {B bo g : Nat} {out : Ds} (h : OutAt W B bo g out) (hb : Below W.heap.size W W') : OutAt W' B bo g out :=
  ⟨h.own.below hb, h.box.below hb h.box.lt, h.ne, h.low, h.gl, h.len, fun j hj u hu b e => by
    obtain ⟨_, _, _, _, _, hgl, _, _, _⟩ := h.own.get' j hj
    exact h.new j hj u ((hb.cell (p := ⟨g, j, none⟩) hgl).symm.trans hu) b e⟩
theorem domOf_nat {ds : Ds} {n : Nat} (h : n < ds.length) : domOf ds (n : Int) = ds[n] := by
  unfold domOf; simp [List.getD_eq_getElem?_getD, List.getElem?_eq_getElem h]

set_option maxRecDepth 100000 in
set_option maxHeartbeats 1600000 in
theorem keep_c (B bo g n : Nat) (out : Ds) (d : List Rg) (dv : Value) (W : World) (h : OutAt W B bo g out) (hn : n < out.length) (hd : RgAt W dv d) (hdl : d.length ≤ 4096) (hBW : B ≤ W.heap.size) (_hol : out.length ≤ 4096) :
    Calls Tryz.prog 92 #[.int .i64 n, dv, .pointer (some ⟨bo, 0, none⟩)] W fun e W' => (∃ u, e = .returned u) ∧ OutAt W' B bo g (keepL out ((n : Int), d)) ∧ Below B W W' ∧ Stay W W' g := by
  obtain ⟨ao, cap, rfl, _⟩ := hd.shape
  obtain ⟨a1, c1, _, _, _, hgl, hc, hf, hr⟩ := h.own.get' n hn
  have hml : out[n].length ≤ 4096 := h.len _ (List.getElem_mem hn)
  have CM := Lib.hid (fun (W1 : World) (hb : Below W.heap.size W W1) => meet_n _ _ out[n] d W1 (hr.below hb) (hd.below hb) hml hdl)
  have H := Lib.hid h
  have hb0 := h.box.c0
  have hne := h.ne
  have hj : (n : Int) < out.length := by omega
  have e0 : keepL out ((n : Int), d) = out.set n (meetL out[n] d) := by unfold keepL; rw [domOf_nat hn]; rfl
  rw [e0]
  have hm : (meetL out[n] d).length ≤ 201 := canon_len _
  generalize meetL out[n] d = M at *
  clear h hd hr e0
  have HR : Hid (∀ W1, Below W.heap.size W W1 → W1.cell? ⟨bo, 0, none⟩ = some (.slice (some ⟨g, 0, none⟩) out.length out.length) ∧ W1.cell? ⟨g, n, none⟩ = some (.slice a1 out[n].length c1) ∧ W1.frozen? ⟨g, n, none⟩ = false) := fun W1 hb =>
    ⟨(hb.cell (p := ⟨bo, 0, none⟩) H.out.box.lt).trans hb0, (hb.cell (p := ⟨g, n, none⟩) hgl).trans hc, (hb.frozen (p := ⟨g, n, none⟩) hgl).trans hf⟩
  generalize out[n].length = ol at *
  go_enter Tryz.func92, Tryz.ntmps92
  go_wp2
  go_region_with ((go_at_call 34; (with_reducible refine (CM.out _ ?_).mono ?_); (· go_grown); rintro e W1 ⟨a3, c3, rfl, r3, b3, n3⟩; have N3 := Lib.hid n3; clear n3; have bw : Below W.heap.size W W1 := Below.trans ((Below.refl _ W).drew) b3; obtain ⟨z0, z1, z2⟩ := HR.out W1 bw; have R3 := Lib.hid r3; have B3 := Lib.hid bw; clear b3 r3 bw))
  all_goals
    go_end0
    refine ⟨⟨_, rfl⟩, ⟨?_, ?_, H.out.ne, H.out.low, H.out.gl, ?_, ?_⟩, ?_, ?_⟩
    · rw [List.length_set]
      exact DsOwn.set (H.out.own.below B3.out) n hn R3.out
    · rw [List.length_set]
      exact (H.out.box.below B3.out H.out.box.lt).far hne _
    · intro x hx
      rcases List.mem_or_eq_of_mem_set hx with hx | rfl
      · exact H.out.len x hx
      · omega
    · intro j hj u hu b e
      by_cases hjn : j = n
      · subst hjn
        rw [World.cell?_setCell_same _ _ _ z1] at hu
        injection hu with hu
        subst hu
        exact Nat.le_trans hBW (N3.out b e)
      · rw [World.cell?_setCell_other _ _ _ _ (fun he => hjn (by injection he with _ h2 _; exact h2.symm))] at hu
        rw [List.length_set] at hj
        obtain ⟨_, _, _, _, _, hgl2, _, _, _⟩ := H.out.own.get' j hj
        exact H.out.new j hj u ((B3.out.cell (p := ⟨g, j, none⟩) hgl2).symm.trans hu) b e
    · exact (B3.out.mono hBW).setCell (p := ⟨g, n, none⟩) H.out.gl _
    · exact (Stay.of_below B3.out).setCell n _
end Go.Proofs.YtaekdgikgbdnnaaGreat
namespace Go.Proofs.YtaekdgikgbdnnaaGreat
open Go.RowKit

def empB (out : Ds) (v : Int) : Bool := decide (domOf out v = [])
theorem len_nil (d : List Rg) : ((d.length : Int) == 0) = decide (d = []) := by
  cases d with
  | nil => rfl
  | cons r t => simp; omega

set_option maxRecDepth 100000 in
theorem emp_any (B bo g : Nat) (out : Ds) (v : Int) (w : World) (h : OutAt w B bo g out) (hv : 0 ≤ v ∧ v.toNat < out.length) :
    Calls Tryz.prog 91 #[.int .i64 v, .pointer (some ⟨bo, 0, none⟩)] w fun e w' => e = .returned (.bool (empB out v)) ∧ w = w' := by
  obtain ⟨n, rfl⟩ : ∃ n : Nat, v = n := ⟨v.toNat, by omega⟩
  have hn : n < out.length := by omega
  obtain ⟨a1, c1, _, _, _, _, hc, _, _⟩ := h.own.get' n hn
  have hb := h.box.c0
  have hj : (n : Int) < out.length := by omega
  have e0 : empB out (n : Int) = ((out[n].length : Int) == 0) := by unfold empB; rw [domOf_nat hn, len_nil]
  rw [e0]
  clear h e0 hv
  generalize out[n].length = ol at *
  go_enter Tryz.func91, Tryz.ntmps91
  go_wp2
  go_ret
  exact ⟨rfl, rfl⟩

set_option maxHeartbeats 400000 in
theorem indexEmp_any (B bx g : Nat) (out : Ds) (v : Value) (zs : List Int) (w : World) (hc : OutAt w B bx g out) (h : IsAt w v zs) (hl : zs.length ≤ 4097) (hv : ∀ z ∈ zs, 0 ≤ z ∧ z.toNat < out.length) :
    Calls Tryz.prog 61 #[v, .func (.func 91) #[] #[.pointer (some ⟨bx, 0, none⟩)]] w fun e w' => e = .returned (.int .i64 (findI (empB out) zs)) ∧ w = w' := by
  obtain ⟨ao, cap, rfl, _⟩ := h.shape
  have H := Lib.hid h
  have HC := Lib.hid hc
  have HV := Lib.hid hv
  clear h hc hv
  go_enter Tryz.func61, Tryz.ntmps61
  go_wp2
  go_loop [8] (fun i => ∃ k : Nat, k ≤ zs.length ∧ i = .int .i64 k ∧ (zs.take k).any (empB out) = false) (fun i => zs.length - (intOf i).toNat)
  case atStart => exact ⟨0, by omega, rfl, by simp⟩
  case round =>
    obtain ⟨k, hk, rfl, hnot⟩ := hrel
    have HN := Lib.hid hnot
    clear hnot
    by_cases hlt : k < zs.length
    · obtain ⟨b, off, cap', he, _, _, hc⟩ := IsAt.at H.out (by omega)
      simp only [Value.slice.injEq, true_and] at he
      obtain ⟨rfl, rfl⟩ := he
      have hcell := hc k hlt
      clear hc
      obtain ⟨z, hz⟩ : ∃ z, z = zs[k] := ⟨_, rfl⟩
      have hzm : z ∈ zs := by rw [hz]; exact List.getElem_mem hlt
      rw [← hz] at hcell
      cases ho : empB out z with
      | true =>
        have HF := Lib.hid (findIdx_hit (empB out) zs k hlt HN.out (by rw [← hz]; exact ho))
        have CO : Hid (Calls Tryz.prog 91 #[.int .i64 z, .pointer (some ⟨bx, 0, none⟩)] w fun e w' => e = .returned (.bool true) ∧ w = w') := by rw [← ho]; exact emp_any B bx g out z w HC.out (HV.out z hzm)
        clear hz ho hzm
        go_wp2_with (first | (go_at_call 91; ((with_reducible refine CO.out.mono ?_); rintro e w' ⟨rfl, rfl⟩)))
        go_ret
        exact ⟨ret_int HF.out.symm, rfl⟩
      | false =>
        have HF := Lib.hid (any_take_step (empB out) zs k hlt HN.out (by rw [← hz]; exact ho))
        have CO : Hid (Calls Tryz.prog 91 #[.int .i64 z, .pointer (some ⟨bx, 0, none⟩)] w fun e w' => e = .returned (.bool false) ∧ w = w') := by rw [← ho]; exact emp_any B bx g out z w HC.out (HV.out z hzm)
        clear hz ho hzm
        go_wp2_with (first | (go_at_call 91; ((with_reducible refine CO.out.mono ?_); rintro e w' ⟨rfl, rfl⟩)))
        go_round
        case rel => exact ⟨k + 1, by omega, by go_num, HF.out⟩
        case measure => simp [intOf]; omega
    · have HF : Hid (findI (empB out) zs = -1) := findIdx_none (empB out) zs (by have := HN.out; rwa [List.take_of_length_le (by omega)] at this)
      go_wp2
      go_ret
      exact ⟨ret_int HF.out.symm, rfl⟩

set_option maxHeartbeats 400000 in
theorem containsEmp_any (B bx g : Nat) (out : Ds) (v : Value) (zs : List Int) (w : World) (hc : OutAt w B bx g out) (h : IsAt w v zs) (hl : zs.length ≤ 4097) (hv : ∀ z ∈ zs, 0 ≤ z ∧ z.toNat < out.length) :
    Calls Tryz.prog 41 #[v, .func (.func 91) #[] #[.pointer (some ⟨bx, 0, none⟩)]] w fun e w' => e = .returned (.bool (zs.any (empB out))) ∧ w = w' := by
  have CI := Lib.hid (indexEmp_any B bx g out v zs w hc h hl hv)
  clear h hc hv
  go_enter Tryz.func41, Tryz.ntmps41
  go_wp2_with (first | (go_at_call 61; ((with_reducible refine CI.out.mono ?_); rintro e w' ⟨rfl, rfl⟩)))
  go_ret
  exact ⟨ret_bool (findI_nonneg _ _), rfl⟩
end Go.Proofs.YtaekdgikgbdnnaaGreat
namespace Go.Proofs.YtaekdgikgbdnnaaGreat

theorem keeps_sub (ks : Ks) {out : Ds} (h : AllN out) (j : Nat) (x : Int) (hx : memL ((keepsL ks out).getD j []) x = true) : memL (out.getD j []) x = true := by
  by_cases hj : j < out.length
  · rw [keepsL_mem x j ks h hj, Bool.and_eq_true] at hx
    exact hx.1
  · rw [List.getD_eq_getElem?_getD, List.getElem?_eq_none (by rw [keepsL_len]; omega)] at hx
    simp [memL_nil] at hx
/-! ### once's own result -/
theorem onceGo_spec (rel c : Int) (ds : Ds) (lo hi : Int) : ∀ (ps : Ps) (out r : Ds), (∀ p ∈ ps, p.2.toNat < out.length) → onceGo rel c ds lo hi ps out = some r →
    (∀ p ∈ ps, ∃ q ∈ ps, q.2.toNat = p.2.toNat ∧ r.getD p.2.toNat [] = narrowAt rel c ds lo hi q ∧ narrowAt rel c ds lo hi q ≠ []) ∧ ∀ j, (∀ p ∈ ps, p.2.toNat ≠ j) → r.getD j [] = out.getD j []
  | [], out, r, _, h => by simp [onceGo] at h; subst h; exact ⟨(fun p hp => by cases hp), fun _ _ => rfl⟩
  | p :: ps, out, r, hv, h => by
    unfold onceGo at h
    split at h
    · cases h
    · rename_i hne
      obtain ⟨h1, h2⟩ := onceGo_spec rel c ds lo hi ps _ r (fun q hq => by rw [List.length_set]; exact hv q (List.mem_cons_of_mem _ hq)) h
      constructor
      · intro q hq
        by_cases hl : ∃ q' ∈ ps, q'.2.toNat = q.2.toNat
        · obtain ⟨q', hq', he⟩ := hl
          obtain ⟨q2, a, b, c', d⟩ := h1 q' hq'
          exact ⟨q2, List.mem_cons_of_mem _ a, b.trans he, by rw [← he]; exact c', d⟩
        · have hqp : q = p := by
            rcases List.mem_cons.1 hq with e | e
            · exact e
            · exact absurd ⟨q, e, rfl⟩ hl
          subst hqp
          refine ⟨q, by simp, rfl, ?_, hne⟩
          rw [h2 q.2.toNat (fun q' hq' e => hl ⟨q', hq', e⟩), getD_set, if_pos ⟨rfl, hv q (by simp)⟩]
      · intro j hj
        rw [h2 j (fun q hq => hj q (List.mem_cons_of_mem _ hq)), getD_set, if_neg (fun e => hj p (by simp) e.1)]
theorem norm_getD {ds : Ds} (h : AllN ds) : ds.map norm = ds := by
  apply List.ext_getElem (by simp)
  intro j h1 h2
  rw [List.getElem_map]
  have := h j
  rw [List.getD_eq_getElem?_getD, List.getElem?_eq_getElem h2] at this
  exact norm_of_normal this
/-- of normal sets: what is told is normal, smaller, not empty where the sum has a variable; elsewhere as it was -/
theorem once_spec (rel c : Int) (was : Ds) (hw : AllN was) (ps : Ps) (hv : ∀ p ∈ ps, p.2.toNat < was.length) (r : Ds) (h : onceL rel c was ps = some r) :
    r.length = was.length ∧ AllN r ∧ (∀ j x, memL (r.getD j []) x = true → memL (was.getD j []) x = true) ∧ (∀ p ∈ ps, r.getD p.2.toNat [] ≠ []) ∧ ∀ j, (∀ p ∈ ps, p.2.toNat ≠ j) → r.getD j [] = was.getD j [] := by
  have hl := once_len rel c was ps r h
  unfold onceL at h
  split at h
  · split at h
    · cases h
    · rw [norm_getD hw] at h
      obtain ⟨h1, h2⟩ := onceGo_spec rel c was _ _ ps was r hv h
      refine ⟨hl, fun j => ?_, fun j x hx => ?_, fun p hp => ?_, h2⟩
      · by_cases hj : ∃ p ∈ ps, p.2.toNat = j
        · obtain ⟨p, hp, rfl⟩ := hj
          obtain ⟨q, _, _, e, _⟩ := h1 p hp
          rw [e]; exact narrow_normal _ _ _ _ _ _
        · rw [h2 j (fun p hp e => hj ⟨p, hp, e⟩)]; exact hw j
      · by_cases hj : ∃ p ∈ ps, p.2.toNat = j
        · obtain ⟨p, hp, rfl⟩ := hj
          obtain ⟨q, _, e0, e, _⟩ := h1 p hp
          rw [e] at hx
          unfold narrowAt at hx
          rw [narrow_mem, Bool.and_eq_true] at hx
          have := hx.1
          unfold domOf at this
          rw [norm_of_normal (hw _), e0] at this
          exact this
        · rw [h2 j (fun p hp e => hj ⟨p, hp, e⟩)] at hx; exact hx
      · obtain ⟨q, _, _, e, hne⟩ := h1 p hp
        rw [e]; exact hne
  · cases h
/-! ### the document's way -/
def aloneL (d : List Rg) (v : Int) : Bool := decide (d = [(v, v)])
def PL.one (p : PL) (was : Ds) : Bool := inD 1 && memL (domOf was p.x) 1
def PL.nought (p : PL) (was : Ds) : Bool := inD 0 && memL (domOf was p.x) 0
/-- a constraint that may be, over so many domains -/
structure PL.Good (p : PL) (n : Nat) : Prop where
  kind : p.kind = 1 ∨ p.kind = 2 ∨ p.kind = 3 ∨ p.kind = 4
  len : p.kind = 1 ∨ p.kind = 4 → p.coef.length = p.vars.length
  vars : ∀ v ∈ p.all, 0 ≤ v ∧ v.toNat < n
theorem one_alone {d : List Rg} (h : Normal d) : sizeL (norm d) = 1 → ∀ x, memL d x = aloneL d x := by
  intro h1 x
  rw [norm_of_normal h] at h1
  cases d with
  | nil => simp [sizeL] at h1
  | cons r t =>
    obtain ⟨_, h2, _, h4⟩ := h
    have hb := (sizeL_pos t (fun q hq => ((NormFrom.bounds h4) q hq).2.1)).1
    have hz := (sizeL_pos t (fun q hq => ((NormFrom.bounds h4) q hq).2.1)).2
    simp only [sizeL] at h1
    have ht : t = [] := hz (by omega)
    subst ht
    obtain ⟨r1, r2⟩ := r
    dsimp only at *
    obtain rfl : r1 = r2 := by simp [sizeL] at h1; omega
    unfold aloneL
    rw [Bool.eq_iff_iff]
    simp [memL]; omega
end Go.Proofs.YtaekdgikgbdnnaaGreat
