/-
  FLOATS AS RUNGS: of two words that are no NaN the order is that of their signed rungs; a sum with 0 keeps the rung. Plain: no program.
  weigh.compare, weigh.Less and coneyref02.Less, walked: both are the order of the rungs, what is no number last.
  weigh.Best, walked.
-/
import Derived.Laws.FloatArith
import Derived.Test.YtmeilhjloeghhaaRows
import Derived.Test.YtmeilhjloeghhaaKlib1
namespace Go.Proofs.Ytmeilhjloeghhaa
open Ieee

/-- the magnitude of a rung, in units of the least place -/
def fV (f : Format) (r : Nat) : Nat := if r < f.binade then r else (f.binade + r % f.binade) <<< (r / f.binade - 1)

theorem binade_pos (f : Format) : 0 < f.binade := Nat.two_pow_pos _

theorem fV_small {f : Format} {r : Nat} (h : r < f.binade) : fV f r = r := by simp [fV, h]
theorem fV_big {f : Format} {r : Nat} (h : ¬ r < f.binade) : fV f r = (f.binade + r % f.binade) <<< (r / f.binade - 1) := by simp [fV, h]

theorem fV_succ (f : Format) (r : Nat) : fV f r < fV f (r + 1) := by
  have hB := binade_pos f
  generalize hb : f.binade = B at hB
  by_cases h1 : r + 1 < B
  · rw [fV_small (by omega), fV_small (by omega)]; omega
  · by_cases h2 : r < B
    · have e : r + 1 = B := by omega
      rw [fV_small (by omega), fV_big (by omega), hb, e, Nat.mod_self, Nat.div_self hB]
      simp; omega
    · rw [fV_big (by omega), fV_big (by omega), hb]
      have hq : 1 ≤ r / B := (Nat.one_le_div_iff hB).2 (by omega)
      have hdm := Nat.div_add_mod r B
      have hm := Nat.mod_lt r hB
      by_cases h3 : r % B + 1 < B
      · have e1 : (r + 1) / B = r / B := by
          rw [Nat.div_eq_iff hB]; constructor
          · rw [Nat.mul_comm]; omega
          · have : r / B * B = B * (r / B) := Nat.mul_comm _ _
            omega
        have e2 : (r + 1) % B = r % B + 1 := by
          have := Nat.div_add_mod (r + 1) B
          rw [e1] at this; omega
        rw [e1, e2, Nat.shiftLeft_eq, Nat.shiftLeft_eq]
        exact Nat.mul_lt_mul_of_pos_right (by omega) (Nat.two_pow_pos _)
      · have e0 : r + 1 = B * (r / B + 1) := by rw [Nat.mul_add]; omega
        have e1 : (r + 1) / B = r / B + 1 := by rw [e0, Nat.mul_div_cancel_left _ hB]
        have e2 : (r + 1) % B = 0 := by rw [e0, Nat.mul_mod_right]
        rw [e1, e2, Nat.shiftLeft_eq, Nat.shiftLeft_eq]
        have e3 : r / B + 1 - 1 = (r / B - 1) + 1 := by omega
        rw [e3, Nat.pow_succ, ← Nat.mul_assoc]
        have h4 : (B + r % B) * 2 ^ (r / B - 1) < (2 * B) * 2 ^ (r / B - 1) := Nat.mul_lt_mul_of_pos_right (by omega) (Nat.two_pow_pos _)
        have h5 : (B + 0) * 2 ^ (r / B - 1) * 2 = (2 * B) * 2 ^ (r / B - 1) := by
          rw [Nat.add_zero, Nat.mul_comm 2 B, Nat.mul_assoc, Nat.mul_assoc, Nat.mul_comm 2]
        omega

theorem fV_lt {f : Format} {a b : Nat} (h : a < b) : fV f a < fV f b := by
  induction b with
  | zero => omega
  | succ b ih =>
    have := fV_succ f b
    by_cases e : a = b
    · subst e; exact this
    · have := ih (by omega); omega
theorem fV_le {f : Format} {a b : Nat} (h : a ≤ b) : fV f a ≤ fV f b := by
  by_cases e : a = b
  · subst e; exact Nat.le_refl _
  · exact Nat.le_of_lt (fV_lt (by omega))
theorem fV_zero (f : Format) : fV f 0 = 0 := fV_small (binade_pos f)
theorem fV_pos {f : Format} {a : Nat} (h : 0 < a) : 0 < fV f a := by have := fV_lt (f := f) h; rw [fV_zero] at this; exact this

/-- a sign and a number -/
def sgn (neg : Bool) (n : Nat) : Int := if neg then -(n : Int) else n

theorem sgn_t (n : Nat) : sgn true n = -(n : Int) := rfl
theorem sgn_f (n : Nat) : sgn false n = (n : Int) := rfl
theorem cmp_lt {a b : Int} (h : a < b) : compare a b = .lt := by simp [compare, compareOfLessAndEq, h]
theorem cmp_gt {a b : Int} (h : b < a) : compare a b = .gt := by
  have h1 : ¬ a < b := by omega
  have h2 : ¬ a = b := by omega
  simp [compare, compareOfLessAndEq, h1, h2]
theorem cmp_eq {a b : Int} (h : a = b) : compare a b = .eq := by simp [compare, compareOfLessAndEq, h]
theorem cmp_congr {a b c d : Int} (h1 : a < b ↔ c < d) (h2 : a = b ↔ c = d) : compare a b = compare c d := by
  simp only [compare, compareOfLessAndEq, h1, h2]

theorem sgn_fV (f : Format) (s t : Bool) (a b : Nat) : compare (sgn s (fV f a)) (sgn t (fV f b)) = compare (sgn s a) (sgn t b) := by
  have h0 := fV_zero f
  have ha : (a = 0 ∧ fV f a = 0) ∨ (0 < a ∧ 0 < fV f a) := by
    rcases Nat.eq_zero_or_pos a with h | h
    · exact .inl ⟨h, by rw [h, h0]⟩
    · exact .inr ⟨h, fV_pos h⟩
  have hb : (b = 0 ∧ fV f b = 0) ∨ (0 < b ∧ 0 < fV f b) := by
    rcases Nat.eq_zero_or_pos b with h | h
    · exact .inl ⟨h, by rw [h, h0]⟩
    · exact .inr ⟨h, fV_pos h⟩
  have hl : (a < b ∧ fV f a < fV f b) ∨ (a = b ∧ fV f a = fV f b) ∨ (b < a ∧ fV f b < fV f a) := by
    rcases Nat.lt_trichotomy a b with h | h | h
    · exact .inl ⟨h, fV_lt h⟩
    · exact .inr (.inl ⟨h, by rw [h]⟩)
    · exact .inr (.inr ⟨h, fV_lt h⟩)
  generalize fV f a = A at *
  generalize fV f b = B at *
  apply cmp_congr <;> cases s <;> cases t <;> simp only [sgn_t, sgn_f] <;> omega

/-- what a word stands for: its sign and rung -/
def wneg (f : Format) (x : Nat) : Bool := x / f.signWeight % 2 == 1
def wrung (f : Format) (x : Nat) : Nat := x % f.signWeight

/-- the signed rung; none: a NaN -/
def fkey (f : Format) (x : Nat) : Option Int := if wrung f x ≤ f.infRung then some (sgn (wneg f x) (wrung f x)) else none

theorem read_num {f : Format} {x : Nat} (h : wrung f x < f.infRung) :
    ∃ m i, f.read x = .number (wneg f x) m i ∧ f.leastPlace ≤ i ∧ m <<< (i - f.leastPlace).toNat = fV f (wrung f x) := by
  have h' : x % f.signWeight < f.infRung := h
  by_cases hb : x % f.signWeight < f.binade
  · refine ⟨x % f.signWeight, f.leastPlace, ?_, Int.le_refl _, ?_⟩
    · simp [Format.read, hb, wneg]
    · rw [wrung, fV_small hb]; simp
  · refine ⟨f.binade + x % f.signWeight % f.binade, f.leastPlace + (x % f.signWeight / f.binade - 1 : Nat), ?_, by omega, ?_⟩
    · simp [Format.read, hb, h', wneg]
    · rw [wrung, fV_big hb]; congr 1; omega
theorem read_inf {f : Format} {x : Nat} (h : wrung f x = f.infRung) (hb : f.binade ≤ f.infRung) : f.read x = .infinity (wneg f x) := by
  have h' : x % f.signWeight = f.infRung := h
  simp [Format.read, h', wneg, Nat.not_lt.2 hb]
theorem read_nan {f : Format} {x : Nat} (h : ¬ wrung f x ≤ f.infRung) (hb : f.binade ≤ f.infRung) : ∃ s t, f.read x = .nan s t := by
  have h' : ¬ x % f.signWeight ≤ f.infRung := h
  refine ⟨wneg f x, x % f.signWeight - f.infRung, ?_⟩
  simp [Format.read, wneg, show ¬ x % f.signWeight < f.binade by omega, show ¬ x % f.signWeight < f.infRung by omega, show ¬ x % f.signWeight = f.infRung by omega]

theorem signed_eq (s : Bool) (m u : Nat) : signed s m u = sgn s (m <<< u) := rfl
theorem sgn_mul (s : Bool) (a k : Nat) : sgn s (a * k) = sgn s a * k := by
  cases s <;> simp [sgn, Int.neg_mul]
theorem compare_scale (a b : Int) (k : Nat) (hk : 0 < k) : compare (a * k) (b * k) = compare a b := by
  have hk' : (0 : Int) < k := by omega
  have h1 : a * k < b * k ↔ a < b := ⟨fun h => Int.lt_of_mul_lt_mul_right h (Int.le_of_lt hk'), fun h => Int.mul_lt_mul_of_pos_right h hk'⟩
  have h2 : a * k = b * k ↔ a = b := ⟨fun h => Int.eq_of_mul_eq_mul_right (by omega) h, fun h => by rw [h]⟩
  simp only [compare, compareOfLessAndEq, h1, h2]

theorem order_num {s t : Bool} {m n : Nat} {i j l : Int} (hi : l ≤ i) (hj : l ≤ j) :
    (Datum.number s m i).order (.number t n j) = some (compare (sgn s (m <<< (i - l).toNat)) (sgn t (n <<< (j - l).toNat))) := by
  show some (compare (signed s m (i - min i j).toNat) (signed t n (j - min i j).toNat)) = _
  rw [signed_eq, signed_eq]
  congr 1
  have e1 : (i - l).toNat = (i - min i j).toNat + (min i j - l).toNat := by omega
  have e2 : (j - l).toNat = (j - min i j).toNat + (min i j - l).toNat := by omega
  rw [e1, e2]
  simp only [Nat.shiftLeft_eq, Nat.pow_add, ← Nat.mul_assoc]
  rw [sgn_mul s (m * _), sgn_mul t (n * _), compare_scale _ _ _ (Nat.two_pow_pos _)]

/-- THE ORDER IS THE RUNGS' -/
theorem order_key (f : Format) (hb : f.binade ≤ f.infRung) (x y : Nat) :
    f.order x y = match fkey f x, fkey f y with | some a, some b => some (compare a b) | _, _ => none := by
  unfold Format.order fkey
  by_cases hx : wrung f x ≤ f.infRung
  · by_cases hy : wrung f y ≤ f.infRung
    · simp only [hx, hy, if_true]
      rcases Nat.lt_or_ge (wrung f x) f.infRung with h1 | h1 <;> rcases Nat.lt_or_ge (wrung f y) f.infRung with h2 | h2
      · obtain ⟨m, i, e1, hi, v1⟩ := read_num h1
        obtain ⟨n, j, e2, hj, v2⟩ := read_num h2
        rw [e1, e2, order_num hi hj, v1, v2, sgn_fV]
      · obtain ⟨m, i, e1, hi, v1⟩ := read_num h1
        have h2' : wrung f y = f.infRung := by omega
        rw [e1, read_inf h2' hb, h2']
        show some (if wneg f y then Ordering.gt else .lt) = _
        cases hs : wneg f x <;> cases ht : wneg f y <;> simp only [sgn_t, sgn_f, if_true, if_false, Bool.false_eq_true]
        · rw [cmp_lt (by omega)]
        · rw [cmp_gt (by omega)]
        · rw [cmp_lt (by omega)]
        · rw [cmp_gt (by omega)]
      · have h1' : wrung f x = f.infRung := by omega
        obtain ⟨n, j, e2, hj, v2⟩ := read_num h2
        rw [e2, read_inf h1' hb, h1']
        show some (if wneg f x then Ordering.lt else .gt) = _
        cases hs : wneg f x <;> cases ht : wneg f y <;> simp only [sgn_t, sgn_f, if_true, if_false, Bool.false_eq_true]
        · rw [cmp_gt (by omega)]
        · rw [cmp_gt (by omega)]
        · rw [cmp_lt (by omega)]
        · rw [cmp_lt (by omega)]
      · have h1' : wrung f x = f.infRung := by omega
        have h2' : wrung f y = f.infRung := by omega
        rw [read_inf h1' hb, read_inf h2' hb, h1', h2']
        have : 0 < f.infRung := Nat.lt_of_lt_of_le (binade_pos f) hb
        show some (compare (wneg f y).toNat (wneg f x).toNat) = _
        cases hs : wneg f x <;> cases ht : wneg f y <;> simp only [sgn_t, sgn_f]
        · rw [cmp_eq rfl]; rfl
        · rw [cmp_gt (by omega)]; rfl
        · rw [cmp_lt (by omega)]; rfl
        · rw [cmp_eq rfl]; rfl
    · obtain ⟨s, t, e⟩ := read_nan hy hb
      simp only [hx, hy, if_true, if_false, e]
      cases f.read x <;> rfl
  · obtain ⟨s, t, e⟩ := read_nan hx hb
    simp only [hx, if_false, e]
    rfl
/-! ### A number of the format, written -/

theorem log2_shift {a k : Nat} (h : a ≠ 0) : (a <<< k).log2 = a.log2 + k := by
  rw [Nat.shiftLeft_eq]
  apply Nat.log2_eq_iff (by exact Nat.mul_ne_zero h (by exact Nat.ne_of_gt (Nat.two_pow_pos _))) |>.2
  have h1 := (Nat.log2_eq_iff h).1 rfl
  constructor
  · rw [Nat.pow_add]; exact Nat.mul_le_mul_right _ h1.1
  · rw [show a.log2 + k + 1 = a.log2 + 1 + k by omega, Nat.pow_add]; exact Nat.mul_lt_mul_of_pos_right h1.2 (Nat.two_pow_pos _)

theorem cut_exact (neg : Bool) (n d : Nat) : Toward.even.cut neg (n <<< d) d = n := by
  by_cases hn : n = 0
  · subst hn; simp [Toward.cut]
  · have hm : min d ((n <<< d).log2 + 2) = d := by rw [log2_shift hn]; omega
    have h2 : n <<< d / 1 <<< d = n := by rw [Nat.shiftLeft_eq, Nat.shiftLeft_eq, Nat.one_mul]; exact Nat.mul_div_cancel _ (Nat.two_pow_pos _)
    have h3 : n <<< d % 1 <<< d = 0 := by rw [Nat.shiftLeft_eq, Nat.shiftLeft_eq, Nat.one_mul]; exact Nat.mul_mod_left _ _
    simp only [Toward.cut, hm, h2, h3]
    have h4 : 0 < 1 <<< d := by rw [Nat.shiftLeft_eq, Nat.one_mul]; exact Nat.two_pow_pos _
    simp [Nat.pos_iff_ne_zero.1 h4]

/-- a number whose magnitude is a rung's is written as that rung -/
theorem nearest_rung (f : Format) (neg : Bool) (m : Nat) (p : Int) (r : Nat) (hp : f.leastPlace ≤ p) (hm : m ≠ 0) (h : m <<< (p - f.leastPlace).toNat = fV f r) (hr : r < f.infRung) :
    f.nearest neg m p = f.word neg r := by
  have hB := binade_pos f
  have hlog := log2_shift (k := (p - f.leastPlace).toNat) hm
  rw [h] at hlog
  unfold Format.nearest
  rw [if_neg hm]
  dsimp only
  have hBl : f.binade = 2 ^ f.fractionBits := rfl
  by_cases hrb : r < f.binade
  · rw [fV_small hrb] at h hlog
    have hr0 : r ≠ 0 := by
      intro e; subst e
      rw [Nat.shiftLeft_eq] at h
      exact absurd h (Nat.mul_ne_zero hm (Nat.ne_of_gt (Nat.two_pow_pos _)))
    have hlt : r.log2 < f.fractionBits := (Nat.log2_lt hr0).2 (by rw [← hBl]; exact hrb)
    have e1 : max (p + m.log2 - f.fractionBits) f.leastPlace = f.leastPlace := by omega
    rw [e1]
    have e2 : (f.leastPlace - p).toNat = 0 := by omega
    have e3 : Toward.even.cut neg (m <<< (p - f.leastPlace).toNat) 0 = r := by
      have := cut_exact neg (m <<< (p - f.leastPlace).toNat) 0
      rw [Nat.shiftLeft_zero] at this; rw [this, h]
    rw [e2, e3]
    simp [Nat.min_eq_left (Nat.le_of_lt hr)]
  · rw [fV_big hrb] at h hlog
    have hq : 1 ≤ r / f.binade := (Nat.one_le_div_iff hB).2 (by omega)
    have hdm := Nat.div_add_mod r f.binade
    have hml := Nat.mod_lt r hB
    generalize hmant : f.binade + r % f.binade = M at h hlog
    have hM0 : M ≠ 0 := by omega
    have hMl : M.log2 = f.fractionBits := by
      rw [Nat.log2_eq_iff hM0, ← hBl, Nat.pow_succ, ← hBl]; omega
    rw [log2_shift hM0, hMl] at hlog
    have e1 : max (p + m.log2 - f.fractionBits) f.leastPlace = f.leastPlace + (r / f.binade - 1 : Nat) := by omega
    rw [e1]
    have e0 : (f.leastPlace + ((r / f.binade - 1 : Nat) : Int) - f.leastPlace).toNat = r / f.binade - 1 := by omega
    rw [e0]
    have e3 : Toward.even.cut neg (m <<< (p - (f.leastPlace + (r / f.binade - 1 : Nat))).toNat) (f.leastPlace + (r / f.binade - 1 : Nat) - p).toNat = M := by
      by_cases hpl : f.leastPlace + ((r / f.binade - 1 : Nat) : Int) ≤ p
      · have a1 : (f.leastPlace + ((r / f.binade - 1 : Nat) : Int) - p).toNat = 0 := by omega
        rw [a1]
        have a2 : (p - f.leastPlace).toNat = (p - (f.leastPlace + ((r / f.binade - 1 : Nat) : Int))).toNat + (r / f.binade - 1) := by omega
        rw [a2, Nat.shiftLeft_add] at h
        have a3 : m <<< (p - (f.leastPlace + ((r / f.binade - 1 : Nat) : Int))).toNat = M := by
          rw [Nat.shiftLeft_eq _ (r / f.binade - 1), Nat.shiftLeft_eq M] at h
          exact Nat.eq_of_mul_eq_mul_right (Nat.two_pow_pos _) h
        have := cut_exact neg (m <<< (p - (f.leastPlace + ((r / f.binade - 1 : Nat) : Int))).toNat) 0
        rw [Nat.shiftLeft_zero] at this
        rw [this, a3]
      · have a1 : (p - (f.leastPlace + ((r / f.binade - 1 : Nat) : Int))).toNat = 0 := by omega
        rw [a1, Nat.shiftLeft_zero]
        have a2 : r / f.binade - 1 = (f.leastPlace + ((r / f.binade - 1 : Nat) : Int) - p).toNat + (p - f.leastPlace).toNat := by omega
        have a3 : m = M <<< (f.leastPlace + ((r / f.binade - 1 : Nat) : Int) - p).toNat := by
          rw [a2, Nat.shiftLeft_add, Nat.shiftLeft_eq m, Nat.shiftLeft_eq _ (p - f.leastPlace).toNat] at h
          exact Nat.eq_of_mul_eq_mul_right (Nat.two_pow_pos _) h
        have := cut_exact neg M (f.leastPlace + ((r / f.binade - 1 : Nat) : Int) - p).toNat
        rw [← a3] at this
        exact this
    rw [e3]
    have e4 : (r / f.binade - 1) * f.binade + M = r := by
      rw [← hmant]
      have : r / f.binade * f.binade = f.binade * (r / f.binade) := Nat.mul_comm _ _
      have h6 : (r / f.binade - 1) * f.binade = r / f.binade * f.binade - f.binade := by rw [Nat.sub_mul, Nat.one_mul]
      have h7 : f.binade ≤ r / f.binade * f.binade := Nat.le_mul_of_pos_left _ (by omega)
      omega
    rw [e4, Nat.min_eq_left (Nat.le_of_lt hr)]

theorem word_of {f : Format} {x : Nat} (hx : x < 2 * f.signWeight) : f.word (wneg f x) (wrung f x) = x := by
  have hS : 0 < f.signWeight := Nat.two_pow_pos _
  have hdm := Nat.div_add_mod x f.signWeight
  unfold Format.word wneg wrung
  by_cases h : x < f.signWeight
  · simp [Nat.div_eq_of_lt h, Nat.mod_eq_of_lt h]
  · have hd : x / f.signWeight = 1 := by
      rw [Nat.div_eq_iff hS]; omega
    rw [hd] at hdm
    simp [hd]; omega

/-- A SUM WITH 0 keeps the key -/
theorem add_zero_key (f : Format) (hb : f.binade ≤ f.infRung) (_hbs : f.infRung < f.signWeight) (x : Nat) (hx : x < 2 * f.signWeight) (k : Int) (hk : fkey f x = some k) : ∃ y, f.add x 0 = some y ∧ fkey f y = some k := by
  have hB := binade_pos f
  have hS : 0 < f.signWeight := Nat.two_pow_pos _
  have h0r : f.read 0 = .number false 0 f.leastPlace := by simp [Format.read, hB]
  unfold Format.add
  rw [h0r]
  have hle : wrung f x ≤ f.infRung := by
    unfold fkey at hk; split at hk
    · assumption
    · cases hk
  rcases Nat.lt_or_ge (wrung f x) f.infRung with h1 | h1
  · obtain ⟨m, i, e1, hi, v1⟩ := read_num h1
    rw [e1]
    have emin : min i f.leastPlace = f.leastPlace := by omega
    have esum : (Datum.number (wneg f x) m i).sum (.number false 0 f.leastPlace) = some (.number (if sgn (wneg f x) (fV f (wrung f x)) = 0 then false else decide (sgn (wneg f x) (fV f (wrung f x)) < 0)) (fV f (wrung f x)) f.leastPlace) := by
      simp only [Datum.sum, emin, signed_eq, v1]
      have : sgn false (0 <<< (f.leastPlace - f.leastPlace).toNat) = 0 := by simp [sgn]
      rw [this, Int.add_zero]
      have hab : (sgn (wneg f x) (fV f (wrung f x))).natAbs = fV f (wrung f x) := by cases wneg f x <;> simp [sgn]
      rw [hab]
      cases wneg f x <;> simp
    rw [esum]
    refine ⟨_, rfl, ?_⟩
    by_cases hz : wrung f x = 0
    · have hk0 : k = 0 := by
        unfold fkey at hk; rw [if_pos hle, hz] at hk
        injection hk with hk; rw [← hk]; cases wneg f x <;> rfl
      rw [hz, fV_zero]
      subst hk0
      have : sgn (wneg f x) 0 = 0 := by cases wneg f x <;> rfl
      simp only [this, if_true, Format.write, Format.nearest]
      simp [Format.word, fkey, wrung, wneg, sgn]
    · have hpos : 0 < fV f (wrung f x) := fV_pos (by omega)
      have hneg : (if sgn (wneg f x) (fV f (wrung f x)) = 0 then false else decide (sgn (wneg f x) (fV f (wrung f x)) < 0)) = wneg f x := by
        cases hs : wneg f x <;> simp [sgn] <;> omega
      rw [hneg]
      have hw : f.write (.number (wneg f x) (fV f (wrung f x)) f.leastPlace) = x := by
        show f.nearest _ _ _ = x
        rw [nearest_rung f _ _ _ (wrung f x) (Int.le_refl _) (by omega) (by simp) h1, word_of hx]
      rw [hw]; exact hk
  · have h1' : wrung f x = f.infRung := by omega
    rw [read_inf h1' hb]
    refine ⟨_, rfl, ?_⟩
    have : f.write (.infinity (wneg f x)) = x := by
      show f.word _ _ = x
      rw [← h1', word_of hx]
    rw [this]; exact hk

/-! ### Weights -/
def lt64 (x y : Nat) : Bool := match fkey double x, fkey double y with | some a, some b => decide (a < b) | some _, none => true | none, _ => false
theorem double_le : double.binade ≤ double.infRung := by unfold Format.binade Format.infRung Format.binade double; decide
theorem double_lt : double.infRung < double.signWeight := Format.infRung_lt _
end Go.Proofs.Ytmeilhjloeghhaa
namespace Go.Proofs.Ytmeilhjloeghhaa
open Go.RowKit

/-- the key of a weight; none: no number -/
def wk (x : Nat) : Option Int := fkey Ieee.double x
def cmpK : Option Int → Option Int → Int
  | none, none => 0
  | none, some _ => 1
  | some _, none => -1
  | some x, some y => if x < y then -1 else if y < x then 1 else 0
def lessK : Option Int → Option Int → Bool
  | none, _ => false
  | some _, none => true
  | some x, some y => decide (x < y)

theorem ord_none_l {x y : Nat} (h : wk x = none) : FloatKind.f64.format.order x y = none := by
  show Ieee.double.order x y = none
  rw [order_key _ double_le]; unfold wk at h; rw [h]
theorem ord_none_r {x y : Nat} (h : wk y = none) : FloatKind.f64.format.order x y = none := by
  show Ieee.double.order x y = none
  rw [order_key _ double_le]; unfold wk at h; rw [h]; cases fkey Ieee.double x <;> rfl
theorem ord_some {x y : Nat} {a b : Int} (h1 : wk x = some a) (h2 : wk y = some b) : FloatKind.f64.format.order x y = some (compare a b) := by
  show Ieee.double.order x y = _
  rw [order_key _ double_le]; unfold wk at h1 h2; rw [h1, h2]
theorem ord_self {x : Nat} {a : Int} (h1 : wk x = some a) : FloatKind.f64.format.order x x = some .eq := by rw [ord_some h1 h1, cmp_eq rfl]
theorem ord_lt {x y : Nat} {a b : Int} (h1 : wk x = some a) (h2 : wk y = some b) (h : a < b) : FloatKind.f64.format.order x y = some .lt := by rw [ord_some h1 h2, cmp_lt h]
theorem ord_gt {x y : Nat} {a b : Int} (h1 : wk x = some a) (h2 : wk y = some b) (h : b < a) : FloatKind.f64.format.order x y = some .gt := by rw [ord_some h1 h2, cmp_gt h]
theorem ord_eq {x y : Nat} {a b : Int} (h1 : wk x = some a) (h2 : wk y = some b) (h : a = b) : FloatKind.f64.format.order x y = some .eq := by rw [ord_some h1 h2, cmp_eq h]
theorem add_zero_run {x : Nat} {k : Int} (hx : x < 2 ^ 64) (hk : wk x = some k) : ∃ y, floatBits .add .f64 x 0 = some y ∧ wk y = some k :=
  add_zero_key Ieee.double double_le double_lt x (by have : 2 * Ieee.double.signWeight = 2 ^ 64 := by decide
                                                     omega) k hk
theorem wk_zero : wk 0 = some 0 := by
  unfold wk fkey wrung wneg
  simp [sgn]

set_option maxHeartbeats 400000 in
theorem nan_no (x : Nat) (w : World) (a : Int) (h : wk x = some a) : Calls Try.prog 28 #[.float .f64 x] w fun e w' => e = .returned (.bool false) ∧ w = w' := by
  have h1 := ord_self h
  clear h
  go_enter Try.func28, Try.ntmps28
  go_wp2
  go_ret
  exact ⟨by simp, rfl⟩

set_option maxHeartbeats 400000 in
theorem cmpCompare_any (x y : Nat) (w : World) (a b : Int) (hx : wk x = some a) (hy : wk y = some b) :
    Calls Try.prog 26 #[.float .f64 x, .float .f64 y] w fun e w' => e = .returned (.int .i64 (cmpK (some a) (some b))) ∧ w = w' := by
  have HX := Lib.hid hx
  have HY := Lib.hid hy
  rcases Int.lt_trichotomy a b with h | h | h
  · have h1 := ord_lt hx hy h
    clear hx hy
    go_enter Try.func26, Try.ntmps26
    go_wp2_with (first
      | (go_at_call 28; ((with_reducible refine (nan_no _ _ _ HX.out).mono ?_); rintro e w' ⟨rfl, rfl⟩))
      | (go_at_call 28; ((with_reducible refine (nan_no _ _ _ HY.out).mono ?_); rintro e w' ⟨rfl, rfl⟩)))
    go_ret
    exact ⟨ret_int (by simp [cmpK, h]), rfl⟩
  · have h1 := ord_eq hx hy h
    clear hx hy
    go_enter Try.func26, Try.ntmps26
    go_wp2_with (first
      | (go_at_call 28; ((with_reducible refine (nan_no _ _ _ HX.out).mono ?_); rintro e w' ⟨rfl, rfl⟩))
      | (go_at_call 28; ((with_reducible refine (nan_no _ _ _ HY.out).mono ?_); rintro e w' ⟨rfl, rfl⟩)))
    go_ret
    exact ⟨ret_int (by simp [cmpK, h]), rfl⟩
  · have h1 := ord_gt hx hy h
    clear hx hy
    go_enter Try.func26, Try.ntmps26
    go_wp2_with (first
      | (go_at_call 28; ((with_reducible refine (nan_no _ _ _ HX.out).mono ?_); rintro e w' ⟨rfl, rfl⟩))
      | (go_at_call 28; ((with_reducible refine (nan_no _ _ _ HY.out).mono ?_); rintro e w' ⟨rfl, rfl⟩)))
    go_ret
    exact ⟨ret_int (by simp [cmpK, h]; omega), rfl⟩

set_option maxHeartbeats 400000 in
theorem compare_any (x y : Nat) (w : World) (hx : x < 2 ^ 64) (hy : y < 2 ^ 64) :
    Calls Try.prog 22 #[.float .f64 x, .float .f64 y] w fun e w' => e = .returned (.int .i64 (cmpK (wk x) (wk y))) ∧ w = w' := by
  cases kx : wk x with
  | none =>
    cases ky : wk y with
    | none =>
      have h1 := ord_none_l (y := x) kx
      have h2 := ord_none_l (y := y) ky
      clear kx ky hx hy
      go_enter Try.func22, Try.ntmps22
      go_wp2
      go_ret
      exact ⟨rfl, rfl⟩
    | some b =>
      have h1 := ord_none_l (y := x) kx
      have h2 := ord_self ky
      clear kx ky hx hy
      go_enter Try.func22, Try.ntmps22
      go_wp2
      go_ret
      exact ⟨rfl, rfl⟩
  | some a =>
    cases ky : wk y with
    | none =>
      have h1 := ord_self kx
      have h2 := ord_none_l (y := y) ky
      clear kx ky hx hy
      go_enter Try.func22, Try.ntmps22
      go_wp2
      go_ret
      exact ⟨rfl, rfl⟩
    | some b =>
      have h1 := ord_self kx
      have h2 := ord_self ky
      obtain ⟨x', e1, k1⟩ := add_zero_run hx kx
      obtain ⟨y', e2, k2⟩ := add_zero_run hy ky
      have r1 := fun (w : World) (t : TypeId) => run_float_arith (P := Try.prog) w .add t .f64 x 0 x' e1
      have r2 := fun (w : World) (t : TypeId) => run_float_arith (P := Try.prog) w .add t .f64 y 0 y' e2
      have K1 := Lib.hid k1
      have K2 := Lib.hid k2
      clear kx ky hx hy e1 e2 k1 k2
      go_enter Try.func22, Try.ntmps22
      go_wp2_with (first | (go_at_call 26; ((with_reducible refine (cmpCompare_any _ _ _ _ _ K1.out K2.out).mono ?_); rintro e w' ⟨rfl, rfl⟩)))
      go_ret
      exact ⟨rfl, rfl⟩

theorem less_cmp (a b : Option Int) : (cmpK a b < 0) ↔ lessK a b = true := by
  cases a <;> cases b <;> simp [cmpK, lessK]
  split <;> rename_i h <;> simp [h]
  split <;> simp

set_option maxHeartbeats 400000 in
theorem less_any (x y : Nat) (w : World) (hx : x < 2 ^ 64) (hy : y < 2 ^ 64) :
    Calls Try.prog 10 #[.float .f64 x, .float .f64 y] w fun e w' => e = .returned (.bool (lessK (wk x) (wk y))) ∧ w = w' := by
  have HX := Lib.hid hx
  have HY := Lib.hid hy
  clear hx hy
  have hl := less_cmp (wk x) (wk y)
  have HL : Hid (decide (cmpK (wk x) (wk y) < 0) = lessK (wk x) (wk y)) := by
    show _ = _
    rw [Bool.eq_iff_iff, decide_eq_true_eq]; exact hl
  clear hl
  go_enter Try.func10, Try.ntmps10
  go_wp2_with (first | (go_at_call 22; ((with_reducible refine (compare_any _ _ _ HX.out HY.out).mono ?_); rintro e w' ⟨rfl, rfl⟩)))
  go_ret
  exact ⟨ret_bool HL.out, rfl⟩

/-! ### The document's -/
set_option maxHeartbeats 400000 in
theorem refNan_any (x : Nat) (w : World) :
    Calls Try.prog 19 #[.float .f64 x] w fun e w' => e = .returned (.bool (wk x).isNone) ∧ w = w' := by
  cases kx : wk x with
  | none =>
    have h1 := ord_none_l (y := 0) kx
    clear kx
    go_enter Try.func19, Try.ntmps19
    go_wp2
    go_ret
    exact ⟨rfl, rfl⟩
  | some a =>
    rcases Int.lt_trichotomy a 0 with h | h | h
    · have h1 := ord_lt kx wk_zero h
      clear kx
      go_enter Try.func19, Try.ntmps19
      go_wp2
      go_ret
      exact ⟨rfl, rfl⟩
    · have h1 := ord_eq kx wk_zero h
      clear kx
      go_enter Try.func19, Try.ntmps19
      go_wp2
      go_ret
      exact ⟨rfl, rfl⟩
    · have h1 := ord_gt kx wk_zero h
      clear kx
      go_enter Try.func19, Try.ntmps19
      go_wp2
      go_ret
      exact ⟨rfl, rfl⟩

set_option maxHeartbeats 400000 in
theorem refLess_any (x y : Nat) (w : World) :
    Calls Try.prog 11 #[.float .f64 x, .float .f64 y] w fun e w' => e = .returned (.bool (lessK (wk x) (wk y))) ∧ w = w' := by
  obtain ⟨kx, hx⟩ : ∃ k, wk x = k := ⟨_, rfl⟩
  obtain ⟨ky, hy⟩ : ∃ k, wk y = k := ⟨_, rfl⟩
  have CX : Hid (∀ w, Calls Try.prog 19 #[.float .f64 x] w fun e w' => e = .returned (.bool kx.isNone) ∧ w = w') := fun w => by rw [← hx]; exact refNan_any x w
  have CY : Hid (∀ w, Calls Try.prog 19 #[.float .f64 y] w fun e w' => e = .returned (.bool ky.isNone) ∧ w = w') := fun w => by rw [← hy]; exact refNan_any y w
  have HL : Hid (lessK (wk x) (wk y) = lessK kx ky) := by show _ = _; rw [hx, hy]
  cases kx with
  | none =>
    clear hx hy
    go_enter Try.func11, Try.ntmps11
    go_wp2_with (first
      | (go_at_call 19; ((with_reducible refine (CX.out _).mono ?_); rintro e w' ⟨rfl, rfl⟩)))
    go_ret
    exact ⟨ret_bool (by rw [HL.out]; rfl), rfl⟩
  | some a =>
    cases ky with
    | none =>
      clear hx hy
      go_enter Try.func11, Try.ntmps11
      go_wp2_with (first
        | (go_at_call 19; ((with_reducible refine (CX.out _).mono ?_); rintro e w' ⟨rfl, rfl⟩))
        | (go_at_call 19; ((with_reducible refine (CY.out _).mono ?_); rintro e w' ⟨rfl, rfl⟩)))
      go_ret
      exact ⟨ret_bool (by rw [HL.out]; rfl), rfl⟩
    | some b =>
      have ho : Hid ((FloatKind.f64.format.order x y == some .lt) = lessK (some a) (some b)) := by
        show _ = _
        rcases Int.lt_trichotomy a b with h | h | h
        · rw [ord_lt hx hy h]; simp [lessK, h]
        · rw [ord_eq hx hy h]; simp [lessK, h]
        · rw [ord_gt hx hy h]; simp [lessK]; omega
      clear hx hy
      go_enter Try.func11, Try.ntmps11
      go_wp2_with (first
        | (go_at_call 19; ((with_reducible refine (CX.out _).mono ?_); rintro e w' ⟨rfl, rfl⟩))
        | (go_at_call 19; ((with_reducible refine (CY.out _).mono ?_); rintro e w' ⟨rfl, rfl⟩)))
      all_goals go_ret
      all_goals exact ⟨ret_bool (by rw [HL.out, ← ho.out]), rfl⟩

/-! ### The laws -/
theorem lessK_asym (a b : Option Int) : (lessK a b && lessK b a) = false := by
  cases a <;> cases b <;> simp [lessK]
  omega

set_option maxHeartbeats 400000 in
theorem weighLess_any (x y : Nat) (w : World) (hx : x < 2 ^ 64) (hy : y < 2 ^ 64) :
    Calls Try.prog 3 #[.float .f64 x, .float .f64 y] w fun e w' => e = .returned (.bool true) ∧ w = w' := by
  have C1 : Hid (∀ w, Calls Try.prog 10 #[.float .f64 x, .float .f64 y] w fun e w' => e = .returned (.bool (lessK (wk x) (wk y))) ∧ w = w') := fun w => less_any x y w hx hy
  have C2 : Hid (∀ w, Calls Try.prog 10 #[.float .f64 y, .float .f64 x] w fun e w' => e = .returned (.bool (lessK (wk y) (wk x))) ∧ w = w') := fun w => less_any y x w hy hx
  have D1 : Hid (∀ w, Calls Try.prog 11 #[.float .f64 x, .float .f64 y] w fun e w' => e = .returned (.bool (lessK (wk x) (wk y))) ∧ w = w') := fun w => refLess_any x y w
  have D2 : Hid (∀ w, Calls Try.prog 11 #[.float .f64 y, .float .f64 x] w fun e w' => e = .returned (.bool (lessK (wk y) (wk x))) ∧ w = w') := fun w => refLess_any y x w
  have hA := lessK_asym (wk x) (wk y)
  generalize lessK (wk x) (wk y) = p at *
  generalize lessK (wk y) (wk x) = q at *
  clear hx hy
  cases p <;> cases q <;> first | (exfalso; simp at hA; done) | skip
  all_goals
    clear hA
    go_enter Try.func3, Try.ntmps3
    go_wp2_with (first
      | (go_at_call 10; ((with_reducible refine (C1.out _).mono ?_); rintro e w' ⟨rfl, rfl⟩))
      | (go_at_call 10; ((with_reducible refine (C2.out _).mono ?_); rintro e w' ⟨rfl, rfl⟩))
      | (go_at_call 11; ((with_reducible refine (D1.out _).mono ?_); rintro e w' ⟨rfl, rfl⟩))
      | (go_at_call 11; ((with_reducible refine (D2.out _).mono ?_); rintro e w' ⟨rfl, rfl⟩)))
    go_ret
    exact ⟨rfl, rfl⟩

theorem lessK_trans (a b c : Option Int) (h1 : lessK a b = true) (h2 : lessK b c = true) : lessK a c = true := by
  cases a <;> cases b <;> cases c <;> simp [lessK] at *
  omega
theorem lessK_alike (a b c : Option Int) (h1 : lessK a b = false) (h2 : lessK b a = false) (h3 : lessK b c = false) (h4 : lessK c b = false) : lessK a c = false ∧ lessK c a = false := by
  cases a <;> cases b <;> cases c <;> simp [lessK] at *
  omega

set_option maxHeartbeats 1600000 in
theorem weighWeak_any (x y z : Nat) (w : World) (hx : x < 2 ^ 64) (hy : y < 2 ^ 64) (hz : z < 2 ^ 64) :
    Calls Try.prog 4 #[.float .f64 x, .float .f64 y, .float .f64 z] w fun e w' => e = .returned (.bool true) ∧ w = w' := by
  have C1 : Hid (∀ w, Calls Try.prog 10 #[.float .f64 x, .float .f64 y] w fun e w' => e = .returned (.bool (lessK (wk x) (wk y))) ∧ w = w') := fun w => less_any x y w hx hy
  have C2 : Hid (∀ w, Calls Try.prog 10 #[.float .f64 y, .float .f64 z] w fun e w' => e = .returned (.bool (lessK (wk y) (wk z))) ∧ w = w') := fun w => less_any y z w hy hz
  have C3 : Hid (∀ w, Calls Try.prog 10 #[.float .f64 x, .float .f64 z] w fun e w' => e = .returned (.bool (lessK (wk x) (wk z))) ∧ w = w') := fun w => less_any x z w hx hz
  have C4 : Hid (∀ w, Calls Try.prog 10 #[.float .f64 y, .float .f64 x] w fun e w' => e = .returned (.bool (lessK (wk y) (wk x))) ∧ w = w') := fun w => less_any y x w hy hx
  have C5 : Hid (∀ w, Calls Try.prog 10 #[.float .f64 z, .float .f64 y] w fun e w' => e = .returned (.bool (lessK (wk z) (wk y))) ∧ w = w') := fun w => less_any z y w hz hy
  have C6 : Hid (∀ w, Calls Try.prog 10 #[.float .f64 z, .float .f64 x] w fun e w' => e = .returned (.bool (lessK (wk z) (wk x))) ∧ w = w') := fun w => less_any z x w hz hx
  have D1 : Hid (∀ w, Calls Try.prog 11 #[.float .f64 x, .float .f64 y] w fun e w' => e = .returned (.bool (lessK (wk x) (wk y))) ∧ w = w') := fun w => refLess_any x y w
  have hT := lessK_trans (wk x) (wk y) (wk z)
  have hA := lessK_alike (wk x) (wk y) (wk z)
  generalize lessK (wk x) (wk y) = p1 at *
  generalize lessK (wk y) (wk z) = p2 at *
  generalize lessK (wk x) (wk z) = p3 at *
  generalize lessK (wk y) (wk x) = p4 at *
  generalize lessK (wk z) (wk y) = p5 at *
  generalize lessK (wk z) (wk x) = p6 at *
  clear hx hy hz
  cases p1 <;> cases p2 <;> cases p3 <;> cases p4 <;> cases p5 <;> cases p6 <;> first | (exfalso; simp at hT hA; done) | skip
  all_goals
    clear hA hT
    go_enter Try.func4, Try.ntmps4
    go_wp2_with (first
      | (go_at_call 10; ((with_reducible refine (C1.out _).mono ?_); rintro e w' ⟨rfl, rfl⟩))
      | (go_at_call 10; ((with_reducible refine (C2.out _).mono ?_); rintro e w' ⟨rfl, rfl⟩))
      | (go_at_call 10; ((with_reducible refine (C3.out _).mono ?_); rintro e w' ⟨rfl, rfl⟩))
      | (go_at_call 10; ((with_reducible refine (C4.out _).mono ?_); rintro e w' ⟨rfl, rfl⟩))
      | (go_at_call 10; ((with_reducible refine (C5.out _).mono ?_); rintro e w' ⟨rfl, rfl⟩))
      | (go_at_call 10; ((with_reducible refine (C6.out _).mono ?_); rintro e w' ⟨rfl, rfl⟩))
      | (go_at_call 11; ((with_reducible refine (D1.out _).mono ?_); rintro e w' ⟨rfl, rfl⟩)))
    go_ret
    exact ⟨rfl, rfl⟩
end Go.Proofs.Ytmeilhjloeghhaa
namespace Go.Proofs.Ytmeilhjloeghhaa
open Go.RowKit

/-- a list of floats -/
def FlAt (w : World) (v : Value) (bs : List Nat) : Prop := SlAt w 1 v bs.length (bs.map (Value.float .f64)) ∧ ∀ b ∈ bs, b < 2 ^ 64
def BoAt (w : World) (v : Value) (bs : List Bool) : Prop := SlAt w 1 v bs.length (bs.map Value.bool)
theorem FlAt.below {w w' : World} {v : Value} {zs : List Nat} (h : FlAt w v zs) (hb : Below w.heap.size w w') : FlAt w' v zs := ⟨SlAt.below h.1 hb, h.2⟩
theorem BoAt.below {w w' : World} {v : Value} {zs : List Bool} (h : BoAt w v zs) (hb : Below w.heap.size w w') : BoAt w' v zs := SlAt.below h hb
theorem FlAt.at {w : World} {v : Value} {zs : List Nat} (h : FlAt w v zs) (hp : 0 < zs.length) :
    ∃ b off cap, v = .slice (some ⟨b, off, none⟩) zs.length cap ∧ zs.length ≤ cap ∧ b < w.heap.size ∧ ∀ j, (hj : j < zs.length) → w.cell? ⟨b, off + j, none⟩ = some (.float .f64 zs[j]) := by
  obtain ⟨b, off, cap, rfl, h1, _, h2, h3⟩ := SlAt.pos h.1 (by omega)
  exact ⟨b, off, cap, rfl, h1, h2, fun j hj => by rw [h3 j (by omega)]; simp [hj]⟩
theorem BoAt.at {w : World} {v : Value} {zs : List Bool} (h : BoAt w v zs) (hp : 0 < zs.length) :
    ∃ b off cap, v = .slice (some ⟨b, off, none⟩) zs.length cap ∧ zs.length ≤ cap ∧ b < w.heap.size ∧ ∀ j, (hj : j < zs.length) → w.cell? ⟨b, off + j, none⟩ = some (.bool zs[j]) := by
  obtain ⟨b, off, cap, rfl, h1, _, h2, h3⟩ := SlAt.pos h (by omega)
  exact ⟨b, off, cap, rfl, h1, h2, fun j hj => by rw [h3 j (by omega)]; simp [hj]⟩

/-- the keys of a list -/
def keyAt (bs : List Nat) (i : Nat) : Option Int := wk (bs.getD i 0)
/-- the best place of the first k that are not skipped -/
def bestI (ks : Nat → Option Int) (sk : Nat → Bool) : Nat → Option Nat
  | 0 => none
  | k + 1 => if sk k = true then bestI ks sk k else match bestI ks sk k with
    | none => some k
    | some b => if lessK (ks k) (ks b) = true then some k else some b
def toI : Option Nat → Int | none => -1 | some k => (k : Int)
theorem bestI_lt (ks : Nat → Option Int) (sk : Nat → Bool) : ∀ k b, bestI ks sk k = some b → b < k
  | 0, b, h => by simp [bestI] at h
  | k + 1, b, h => by
    have ih := bestI_lt ks sk k
    unfold bestI at h
    split at h
    · have := ih b h; omega
    · split at h
      · injection h with h; omega
      · rename_i b' hb
        have := ih b' hb
        split at h <;> (injection h with h; omega)
def skipAt (sk : List Bool) (i : Nat) : Bool := sk.getD i false

set_option maxHeartbeats 1600000 in
theorem best_any (v vs : Value) (bs : List Nat) (sk : List Bool) (w : World) (h : FlAt w v bs) (hs : BoAt w vs sk) (hl : bs.length ≤ 4096) (hl2 : sk.length ≤ 4096) :
    Calls Try.prog 12 #[v, vs] w fun e w' => e = .returned (.int .i64 (toI (bestI (keyAt bs) (skipAt sk) bs.length))) ∧ Below w.heap.size w w' := by
  obtain ⟨ao, cap, rfl, _⟩ := h.1.shape
  obtain ⟨asl, caps, rfl, _⟩ := hs.shape
  have H := Lib.hid h
  have HS := Lib.hid hs
  clear h hs
  go_enter Try.func12, Try.ntmps12
  go_wp2
  go_loopw [5, 9] (fun b i wr => ∃ k q : Nat, k ≤ bs.length ∧ i = .int .i64 k ∧ b = .int .i64 (toI (bestI (keyAt bs) (skipAt sk) k)) ∧ wr = w.drewN q) (fun _ i _ => bs.length - (intOf i).toNat)
  case atStart => exact ⟨0, 0, by omega, rfl, rfl, rfl⟩
  case round =>
    obtain ⟨k, q, hk, rfl, rfl, rfl⟩ := hrel
    by_cases hlt : k < bs.length
    · obtain ⟨b, off, cap', he, hcap, _, hc⟩ := FlAt.at H.out (by omega)
      simp only [Value.slice.injEq, true_and] at he
      obtain ⟨rfl, rfl⟩ := he
      have hbk : bs[k] < 2 ^ 64 := H.out.2 _ (List.getElem_mem hlt)
      obtain ⟨x, hx⟩ : ∃ x, x = bs[k] := ⟨_, rfl⟩
      have hcell := hc k hlt
      rw [← hx] at hcell hbk
      have HX : Hid (keyAt bs k = wk x) := by show _ = _; rw [keyAt, hx]; simp [hlt]
      have HBK := Lib.hid hbk
      have HC := Lib.hid hc
      clear hc hx hbk
      cases hsk : skipAt sk k with
      | true =>
        have hks : k < sk.length := by
          rcases Nat.lt_or_ge k sk.length with h | h
          · exact h
          · simp [skipAt, List.getElem?_eq_none h] at hsk
        obtain ⟨bb, offb, capb, he, hcapb, _, hcb⟩ := BoAt.at HS.out (by omega)
        simp only [Value.slice.injEq, true_and] at he
        obtain ⟨rfl, rfl⟩ := he
        have hcb' := hcb k hks
        rw [show sk[k] = true by simpa [skipAt, hks] using hsk] at hcb'
        have HN : Hid (bestI (keyAt bs) (skipAt sk) (k + 1) = bestI (keyAt bs) (skipAt sk) k) := by show _ = _; simp [bestI, hsk]
        clear hcb hsk
        go_wp2
        go_roundw
        case rel => exact ⟨k + 1, q, by omega, by go_num, by rw [HN.out], rfl⟩
        case measure => simp [intOf]; omega
      | false =>
        cases hbi : bestI (keyAt bs) (skipAt sk) k with
        | none =>
          have HN : Hid (bestI (keyAt bs) (skipAt sk) (k + 1) = some k) := by show _ = _; simp [bestI, hsk, hbi]
          clear hcell
          have hm1 : toI none = -1 := rfl
          by_cases hks : k < sk.length
          · obtain ⟨bb, offb, capb, he, hcapb, _, hcb⟩ := BoAt.at HS.out (by omega)
            simp only [Value.slice.injEq, true_and] at he
            obtain ⟨rfl, rfl⟩ := he
            have hcb' := hcb k hks
            rw [show sk[k] = false by simpa [skipAt, hks] using hsk] at hcb'
            clear hcb
            clear hsk hbi
            go_wp2
            go_quiet (fail)
            go_wp2
            go_roundw
            case rel => exact ⟨k + 1, _, by omega, by go_num, (by rw [HN.out]; rfl), rfl⟩
            case measure => simp [intOf]; omega
          · clear hsk hbi
            go_wp2
            go_quiet (fail)
            go_wp2
            go_roundw
            case rel => exact ⟨k + 1, _, by omega, by go_num, (by rw [HN.out]; rfl), rfl⟩
            case measure => simp [intOf]; omega
        | some m =>
          have hm : m < k := bestI_lt _ _ _ _ hbi
          have hmb : m < bs.length := by omega
          have hcm := HC.out m (by omega)
          have hbm : bs[m] < 2 ^ 64 := H.out.2 _ (List.getElem_mem (by omega))
          obtain ⟨y, hy⟩ : ∃ y, y = bs[m] := ⟨_, rfl⟩
          rw [← hy] at hcm hbm
          have HY : Hid (keyAt bs m = wk y) := by show _ = _; rw [keyAt, hy]; simp [show m < bs.length by omega]
          have hm1 : toI (some m) = (m : Int) := rfl
          have CL0 : Hid (∀ w, Calls Try.prog 10 #[.float .f64 x, .float .f64 y] w fun e w' => e = .returned (.bool (lessK (wk x) (wk y))) ∧ w = w') := fun w => less_any x y w HBK.out hbm
          clear hy hbm
          cases hll : lessK (wk x) (wk y) with
          | true =>
            have HN : Hid (bestI (keyAt bs) (skipAt sk) (k + 1) = some k) := by show _ = _; simp [bestI, hsk, hbi, HX.out, HY.out, hll]
            have CL : Hid (∀ w, Calls Try.prog 10 #[.float .f64 x, .float .f64 y] w fun e w' => e = .returned (.bool true) ∧ w = w') := fun w => by rw [← hll]; exact CL0.out w
            clear hll CL0
            by_cases hks : k < sk.length
            · obtain ⟨bb, offb, capb, he, hcapb, _, hcb⟩ := BoAt.at HS.out (by omega)
              simp only [Value.slice.injEq, true_and] at he
              obtain ⟨rfl, rfl⟩ := he
              have hcb' := hcb k hks
              rw [show sk[k] = false by simpa [skipAt, hks] using hsk] at hcb'
              clear hcb
              clear hsk hbi
              go_wp2
              go_quiet ((go_at_call 10; exact quiet_same ⟨_, rfl⟩ (CL.out _)))
              go_wp2
              go_roundw
              case rel => exact ⟨k + 1, _, by omega, by go_num, (by rw [HN.out]; rfl), rfl⟩
              case measure => simp [intOf]; omega
            · clear hsk hbi
              go_wp2
              go_quiet ((go_at_call 10; exact quiet_same ⟨_, rfl⟩ (CL.out _)))
              go_wp2
              go_roundw
              case rel => exact ⟨k + 1, _, by omega, by go_num, (by rw [HN.out]; rfl), rfl⟩
              case measure => simp [intOf]; omega
          | false =>
            have HN : Hid (bestI (keyAt bs) (skipAt sk) (k + 1) = some m) := by show _ = _; simp [bestI, hsk, hbi, HX.out, HY.out, hll]
            have CL : Hid (∀ w, Calls Try.prog 10 #[.float .f64 x, .float .f64 y] w fun e w' => e = .returned (.bool false) ∧ w = w') := fun w => by rw [← hll]; exact CL0.out w
            clear hll CL0
            by_cases hks : k < sk.length
            · obtain ⟨bb, offb, capb, he, hcapb, _, hcb⟩ := BoAt.at HS.out (by omega)
              simp only [Value.slice.injEq, true_and] at he
              obtain ⟨rfl, rfl⟩ := he
              have hcb' := hcb k hks
              rw [show sk[k] = false by simpa [skipAt, hks] using hsk] at hcb'
              clear hcb
              clear hsk hbi
              go_wp2
              go_quiet ((go_at_call 10; exact quiet_same ⟨_, rfl⟩ (CL.out _)))
              go_wp2
              go_roundw
              case rel => exact ⟨k + 1, _, by omega, by go_num, (by rw [HN.out]; rfl), rfl⟩
              case measure => simp [intOf]; omega
            · clear hsk hbi
              go_wp2
              go_quiet ((go_at_call 10; exact quiet_same ⟨_, rfl⟩ (CL.out _)))
              go_wp2
              go_roundw
              case rel => exact ⟨k + 1, _, by omega, by go_num, (by rw [HN.out]; rfl), rfl⟩
              case measure => simp [intOf]; omega
    · obtain rfl : k = bs.length := by omega
      go_wp2
      go_ret
      exact ⟨rfl, below_drewN (Below.refl _ _) _⟩
end Go.Proofs.Ytmeilhjloeghhaa
