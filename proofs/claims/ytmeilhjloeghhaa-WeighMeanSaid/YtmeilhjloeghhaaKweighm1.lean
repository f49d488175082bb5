/-
  EXACT SUMS AND QUOTIENTS OF SMALL FLOATS. Plain: no program.
  The mean of like weights, in plain Lean.
  weigh.Clean and weigh.Mean of like weights, walked.
  The law WeighMean, walked.
  A slice of floats, of bools, that comes in.
-/
import Derived.Test.YtmeilhjloeghhaaKweigh1
import Derived.Test.YtmeilhjloeghhaaKweigh6
import Derived.Test.YtmeilhjloeghhaaKweigh3
import Derived.Test.YtmeilhjloeghhaaKlib1
import Derived.Lib.SmallJoins
import Derived.ChangeArms
namespace Go.Proofs.Ytmeilhjloeghhaa
open Ieee

theorem rung_exists (f : Format) (he2 : 2 ≤ 2 ^ f.exponentBits) (m : Nat) (p : Int) (hm : m ≠ 0) (hlt : m < 2 ^ (f.fractionBits + 1)) (_hp : f.leastPlace ≤ p) (hmax : m.log2 + (p - f.leastPlace).toNat + 3 ≤ 2 ^ f.exponentBits + f.fractionBits) :
    ∃ r, r < f.infRung ∧ fV f r = m <<< (p - f.leastPlace).toNat := by
  have hB := binade_pos f
  have hBl : f.binade = 2 ^ f.fractionBits := rfl
  have hlog : m.log2 ≤ f.fractionBits := by
    have := (Nat.log2_lt hm).2 hlt; omega
  generalize hk : (p - f.leastPlace).toNat = k at *
  by_cases hs : m.log2 + k < f.fractionBits
  · have h1 : m <<< k < f.binade := by
      have hne : m <<< k ≠ 0 := by rw [Nat.shiftLeft_eq]; exact Nat.mul_ne_zero hm (Nat.ne_of_gt (Nat.two_pow_pos _))
      rw [hBl]
      apply (Nat.log2_lt hne).1
      rw [log2_shift hm]; exact hs
    refine ⟨m <<< k, ?_, fV_small h1⟩
    unfold Format.infRung
    calc m <<< k < f.binade := h1
      _ = 1 * f.binade := (Nat.one_mul _).symm
      _ ≤ (2 ^ f.exponentBits - 1) * f.binade := Nat.mul_le_mul_right _ (by omega)
  · have hq : ∃ q, m.log2 + k = f.fractionBits + q := ⟨m.log2 + k - f.fractionBits, by omega⟩
    obtain ⟨q, hq⟩ := hq
    have hqk : q ≤ k := by omega
    have hM : (m <<< (k - q)).log2 = f.fractionBits := by rw [log2_shift hm]; omega
    have hMne : m <<< (k - q) ≠ 0 := by rw [Nat.shiftLeft_eq]; exact Nat.mul_ne_zero hm (Nat.ne_of_gt (Nat.two_pow_pos _))
    have hMb := (Nat.log2_eq_iff hMne).1 hM
    rw [Nat.pow_succ, ← hBl] at hMb
    have hr : ((q + 1) * f.binade + (m <<< (k - q) - f.binade)) / f.binade = q + 1 := by
      rw [Nat.mul_comm, Nat.mul_add_div hB, Nat.div_eq_of_lt (by omega)]
    have hr2 : ((q + 1) * f.binade + (m <<< (k - q) - f.binade)) % f.binade = m <<< (k - q) - f.binade := by
      rw [Nat.mul_comm, Nat.mul_add_mod, Nat.mod_eq_of_lt (by omega)]
    refine ⟨(q + 1) * f.binade + (m <<< (k - q) - f.binade), ?_, ?_⟩
    · unfold Format.infRung
      have h5 : q + 2 ≤ 2 ^ f.exponentBits - 1 := by omega
      have h6 : (q + 2) * f.binade ≤ (2 ^ f.exponentBits - 1) * f.binade := Nat.mul_le_mul_right _ h5
      have h7 : (q + 2) * f.binade = (q + 1) * f.binade + f.binade := by rw [show q + 2 = (q + 1) + 1 by omega, Nat.add_mul (q + 1) 1, Nat.one_mul]
      omega
    · have hnb : ¬ (q + 1) * f.binade + (m <<< (k - q) - f.binade) < f.binade := by
        have : f.binade ≤ (q + 1) * f.binade := Nat.le_mul_of_pos_left _ (by omega)
        omega
      rw [fV_big hnb, hr, hr2]
      have e1 : f.binade + (m <<< (k - q) - f.binade) = m <<< (k - q) := by omega
      rw [e1, ← Nat.shiftLeft_add]
      congr 1; omega

theorem wneg_word (f : Format) (s : Bool) {r : Nat} (hr : r < f.signWeight) : wneg f (f.word s r) = s ∧ wrung f (f.word s r) = r := by
  have hS : 0 < f.signWeight := Nat.two_pow_pos _
  unfold wneg wrung Format.word
  cases s
  · simp [Nat.div_eq_of_lt hr, Nat.mod_eq_of_lt hr]
  · have : (f.signWeight + r) / f.signWeight = 1 := by rw [Nat.add_div_left _ hS, Nat.div_eq_of_lt hr]
    simp [this, Nat.mod_eq_of_lt hr]


/-- the word of a magnitude in units of the least place, with its sign -/
def IsV (x : Nat) (s : Bool) (v : Nat) : Prop := ∃ r, r < double.infRung ∧ fV double r = v ∧ x = double.word s r
def Has (v : Nat) : Prop := ∃ r, r < double.infRung ∧ fV double r = v
theorem fV_inj {a b : Nat} (h : fV double a = fV double b) : a = b := by
  rcases Nat.lt_trichotomy a b with h1 | h1 | h1
  · have := fV_lt (f := double) h1; omega
  · exact h1
  · have := fV_lt (f := double) h1; omega
theorem IsV.unique {x y : Nat} {s : Bool} {v : Nat} (h1 : IsV x s v) (h2 : IsV y s v) : x = y := by
  obtain ⟨r, _, e1, rfl⟩ := h1
  obtain ⟨r', _, e2, rfl⟩ := h2
  rw [fV_inj (e1.trans e2.symm)]
theorem has_small {m e : Nat} (hm : m ≠ 0) (hlt : m < 2 ^ 53) (he : e ≤ 1500) : Has (m <<< e) := by
  have hl : m.log2 < 53 := (Nat.log2_lt hm).2 hlt
  have hp : double.leastPlace = -1074 := by decide
  obtain ⟨r, hr, hv⟩ := rung_exists double (by decide) m (double.leastPlace + e) hm hlt (by omega) (by
    have h1 : (double.leastPlace + (e : Int) - double.leastPlace).toNat = e := by omega
    rw [h1]
    have h2 : (2 : Nat) ^ double.exponentBits + double.fractionBits = 2100 := by decide
    omega)
  have h1 : (double.leastPlace + (e : Int) - double.leastPlace).toNat = e := by omega
  rw [h1] at hv
  exact ⟨r, hr, hv⟩
theorem write_isV {s : Bool} {m : Nat} {p : Int} (hm : m ≠ 0) (hp : double.leastPlace ≤ p) {v : Nat} (hv : m <<< (p - double.leastPlace).toNat = v) (h : Has v) : IsV (double.nearest s m p) s v := by
  obtain ⟨r, hr, e⟩ := h
  exact ⟨r, hr, e, nearest_rung double s m p r hp hm (hv.trans e.symm) hr⟩
theorem read_isV {x : Nat} {s : Bool} {v : Nat} (h : IsV x s v) : ∃ M P, double.read x = .number s M P ∧ double.leastPlace ≤ P ∧ M <<< (P - double.leastPlace).toNat = v ∧ M < 2 ^ 53 := by
  obtain ⟨r, hr, e, rfl⟩ := h
  have hlt := double_lt
  obtain ⟨a1, a2⟩ := wneg_word double s (r := r) (by omega)
  have a2' : double.word s r % double.signWeight = r := a2
  have hB : double.binade = 2 ^ 52 := by decide
  by_cases hb : r < double.binade
  · refine ⟨r, double.leastPlace, ?_, Int.le_refl _, ?_, by rw [hB] at hb; omega⟩
    · unfold Format.read
      dsimp only
      rw [a2', if_pos hb, show (double.word s r / double.signWeight % 2 == 1) = wneg double (double.word s r) from rfl, a1]
    · rw [← e, fV_small hb]; simp
  · refine ⟨double.binade + r % double.binade, double.leastPlace + (r / double.binade - 1 : Nat), ?_, by omega, ?_, ?_⟩
    · unfold Format.read
      dsimp only
      rw [a2', if_neg hb, if_pos hr, show (double.word s r / double.signWeight % 2 == 1) = wneg double (double.word s r) from rfl, a1]
    · rw [← e, fV_big hb]; congr 1; omega
    · have := Nat.mod_lt r (binade_pos double); rw [hB] at *; omega
theorem signed_add (s : Bool) (a b : Nat) : sgn s a + sgn s b = sgn s (a + b) := by cases s <;> simp [sgn] <;> omega
theorem sgn_abs (s : Bool) (a : Nat) : (sgn s a).natAbs = a := by cases s <;> simp [sgn]
theorem sgn_zero (s : Bool) {a : Nat} (h : a ≠ 0) : (sgn s a = 0) = False := by
  refine propext ⟨fun e => ?_, False.elim⟩
  have := congrArg Int.natAbs e
  rw [sgn_abs] at this; simp at this; omega
theorem sgn_neg (s : Bool) {a : Nat} (h : a ≠ 0) : decide (sgn s a < 0) = s := by
  cases s
  · simp [sgn]
  · simp [sgn]; omega
theorem add_isV {x y : Nat} {s : Bool} {a b : Nat} (hx : IsV x s a) (hy : IsV y s b) (ha : a ≠ 0) (hh : Has (a + b)) : ∃ w, double.add x y = some w ∧ IsV w s (a + b) := by
  obtain ⟨m, i, e1, h1, v1, _⟩ := read_isV hx
  obtain ⟨n, j, e2, h2, v2, _⟩ := read_isV hy
  unfold Format.add
  rw [e1, e2]
  simp only [Datum.sum, signed_eq, signed_add, Option.map_some, Format.write, sgn_abs]
  have hT : (m <<< (i - min i j).toNat + n <<< (j - min i j).toNat) <<< (min i j - double.leastPlace).toNat = a + b := by
    rw [Nat.shiftLeft_eq _ (min i j - double.leastPlace).toNat, Nat.add_mul, ← Nat.shiftLeft_eq, ← Nat.shiftLeft_eq, ← Nat.shiftLeft_add, ← Nat.shiftLeft_add, ← v1, ← v2]
    congr 2 <;> omega
  have hT0 : m <<< (i - min i j).toNat + n <<< (j - min i j).toNat ≠ 0 := fun e => by rw [e] at hT; simp at hT; omega
  simp only [sgn_zero s hT0, if_false, sgn_neg s hT0]
  exact ⟨_, rfl, write_isV hT0 (by omega) hT hh⟩
theorem add_zero_isV {x : Nat} {s : Bool} {a : Nat} (hx : IsV x s a) (ha : a ≠ 0) (hh : Has a) : ∃ w, double.add 0 x = some w ∧ IsV w s a := by
  obtain ⟨n, j, e2, h2, v2, _⟩ := read_isV hx
  have h0r : double.read 0 = .number false 0 double.leastPlace := by simp [Format.read, binade_pos double]
  unfold Format.add
  rw [h0r, e2]
  have hmin : min double.leastPlace j = double.leastPlace := by omega
  have hz : sgn false ((0 : Nat) <<< (double.leastPlace - double.leastPlace).toNat) = 0 := by simp [sgn]
  simp only [Datum.sum, signed_eq, hmin, hz, Int.zero_add, Option.map_some, Format.write, sgn_abs, v2, sgn_zero s ha, if_false, sgn_neg s ha]
  exact ⟨_, rfl, write_isV ha (Int.le_refl _) (by simp) hh⟩
theorem div_isV {x y k : Nat} {s : Bool} {a : Nat} (hx : IsV x s (2 ^ k * a)) (hy : double.read y = .number false (2 ^ 52) ((k : Int) - 52)) (hk : k ≤ 5) (ha : 2 ^ 1060 ≤ a) (hh : Has a) : ∃ w, double.div x y = some w ∧ IsV w s a := by
  obtain ⟨M, P, e1, h1, v1, hM⟩ := read_isV hx
  have hM0 : M ≠ 0 := fun e => by
    have h0 : 2 ^ k * a = 0 := by rw [← v1, e]; simp
    have := Nat.two_pow_pos 1060
    rcases Nat.mul_eq_zero.1 h0 with h | h
    · exact absurd h (Nat.ne_of_gt (Nat.two_pow_pos _))
    · omega
  have hlog : M.log2 < 53 := (Nat.log2_lt hM0).2 hM
  have hlp : double.leastPlace = -1074 := by decide
  have hP : 1000 ≤ (P - double.leastPlace).toNat := by
    by_cases h : 1000 ≤ (P - double.leastPlace).toNat
    · exact h
    · exfalso
      have h5 : M <<< (P - double.leastPlace).toNat < 2 ^ 1060 := by
        rw [Nat.shiftLeft_eq]
        calc M * 2 ^ (P - double.leastPlace).toNat < 2 ^ 53 * 2 ^ (P - double.leastPlace).toNat := Nat.mul_lt_mul_of_pos_right hM (Nat.two_pow_pos _)
          _ = 2 ^ (53 + (P - double.leastPlace).toNat) := (Nat.pow_add _ _ _).symm
          _ ≤ 2 ^ 1060 := Nat.pow_le_pow_right (by decide) (by omega)
      rw [v1] at h5
      have h6 : a ≤ 2 ^ k * a := Nat.le_mul_of_pos_left _ (Nat.two_pow_pos _)
      omega
  have hn0 : (2 : Nat) ^ 52 ≠ 0 := by decide
  have hnl : ((2 : Nat) ^ 52).log2 = 52 := Nat.log2_two_pow
  unfold Format.div
  rw [e1, hy]
  have hfb : double.fractionBits + 2 = 54 := by decide
  simp only [Datum.quotient, hnl, hfb, if_neg hn0, Option.map_some, Format.write, Bool.xor_false]
  generalize hmore : 54 + 52 - M.log2 = more
  have hm54 : 54 ≤ more := by omega
  have hdiv : M <<< more = M <<< (more - 52) * 2 ^ 52 := by rw [Nat.shiftLeft_eq, Nat.shiftLeft_eq, Nat.mul_assoc, ← Nat.pow_add]; congr 2; omega
  have hq : M <<< more / 2 ^ 52 = M <<< (more - 52) := by rw [hdiv, Nat.mul_div_cancel _ (by decide)]
  have hr : M <<< more % 2 ^ 52 = 0 := by rw [hdiv, Nat.mul_mod_left]
  rw [hq, hr]
  have hz : 2 * M <<< (more - 52) + ((0 : Nat) != 0).toNat = M <<< (more - 51) := by
    simp only [bne_self_eq_false, Bool.toNat_false, Nat.add_zero]
    rw [Nat.shiftLeft_eq, Nat.shiftLeft_eq, Nat.mul_left_comm, show more - 51 = (more - 52) + 1 by omega, Nat.pow_succ, Nat.mul_comm (2 ^ (more - 52))]
  rw [hz]
  refine ⟨_, rfl, write_isV (fun e => hM0 ?_) (by omega) ?_ hh⟩
  · rw [Nat.shiftLeft_eq] at e
    rcases Nat.mul_eq_zero.1 e with h | h
    · exact h
    · exact absurd h (Nat.ne_of_gt (Nat.two_pow_pos _))
  · have he : (more - 51) + (P - ((k : Int) - 52) - more - 1 - double.leastPlace).toNat = (P - double.leastPlace).toNat - k := by omega
    rw [← Nat.shiftLeft_add, he]
    rw [Nat.shiftLeft_eq] at v1 ⊢
    have h7 : (2 : Nat) ^ (P - double.leastPlace).toNat = 2 ^ ((P - double.leastPlace).toNat - k) * 2 ^ k := by rw [← Nat.pow_add]; congr 1; omega
    rw [h7, ← Nat.mul_assoc, Nat.mul_comm (2 ^ k) a] at v1
    exact Nat.eq_of_mul_eq_mul_right (Nat.two_pow_pos k) v1
end Go.Proofs.Ytmeilhjloeghhaa
namespace Go.Proofs.Ytmeilhjloeghhaa
open Go.RowKit Ieee

/-- the floats of a mean: the part, the sums -/
def MeanF (fx fm m p : Nat) (S : Nat → Nat) : Prop := floatBits .quo .f64 fx fm = some p ∧ S 0 = 0 ∧ (∀ i, i < m → floatBits .add .f64 (S i) p = some (S (i + 1))) ∧ S m = fx
theorem shl_ne {m e : Nat} (h : m ≠ 0) : m <<< e ≠ 0 := by rw [Nat.shiftLeft_eq]; exact Nat.mul_ne_zero h (Nat.ne_of_gt (Nat.two_pow_pos _))
theorem ofInt_isV {n : Int} (hn : n ≠ 0) (hb : n.natAbs ≤ 32768) : IsV (floatOfInt .f64 n) (decide (n < 0)) (n.natAbs <<< 1074) := by
  have hlp : double.leastPlace = -1074 := by decide
  exact write_isV (s := decide (n < 0)) (m := n.natAbs) (p := 0) (by omega) (by omega) (by rw [hlp]; rfl) (has_small (by omega) (by omega) (by omega))
open Classical in
theorem mean_part (n : Int) (hn : n ≠ 0) (hb : n.natAbs ≤ 32768) (k : Nat) (hk : k ≤ 5) (fm : Nat) (hy : double.read fm = .number false (2 ^ 52) ((k : Int) - 52)) : ∃ p S, MeanF (floatOfInt .f64 n) fm (2 ^ k) p S := by
  have hx := ofInt_isV hn hb
  generalize floatOfInt .f64 n = fx at *
  generalize decide (n < 0) = s at *
  generalize hN : n.natAbs = N at *
  have hN0 : N ≠ 0 := by omega
  have hsplit : N <<< 1074 = 2 ^ k * N <<< (1074 - k) := by
    rw [Nat.shiftLeft_eq, Nat.shiftLeft_eq, Nat.mul_left_comm, ← Nat.pow_add]; congr 2; omega
  rw [hsplit] at hx
  have h2k : (2 : Nat) ^ k ≤ 32 := by
    have : (2 : Nat) ^ k ≤ 2 ^ 5 := Nat.pow_le_pow_right (by decide) hk
    omega
  have hHas : ∀ i, 0 < i → i ≤ 32 → Has (i * N <<< (1074 - k)) := fun i h1 h2 => by
    rw [Nat.shiftLeft_eq, ← Nat.mul_assoc, ← Nat.shiftLeft_eq]
    have h3 : i * N ≤ 32 * 32768 := Nat.mul_le_mul h2 hb
    exact has_small (Nat.mul_ne_zero (by omega) hN0) (by omega) (by omega)
  have ha0 : N <<< (1074 - k) ≠ 0 := by rw [Nat.shiftLeft_eq]; exact Nat.mul_ne_zero hN0 (Nat.ne_of_gt (Nat.two_pow_pos _))
  have hbig : 2 ^ 1060 ≤ N <<< (1074 - k) := by
    rw [Nat.shiftLeft_eq]
    calc 2 ^ 1060 ≤ 2 ^ (1074 - k) := Nat.pow_le_pow_right (by decide) (by omega)
      _ ≤ N * 2 ^ (1074 - k) := Nat.le_mul_of_pos_left _ (by omega)
  have hH1 : Has (N <<< (1074 - k)) := by have := hHas 1 (by omega) (by omega); rwa [Nat.one_mul] at this
  generalize N <<< (1074 - k) = a at *
  obtain ⟨p, hp, hpv⟩ := div_isV hx hy hk hbig hH1
  refine ⟨p, fun i => if i = 0 then 0 else if h : ∃ x, IsV x s (i * a) then Classical.choose h else 0, hp, rfl, fun i hi => ?_, ?_⟩
  · have hex : ∃ x, IsV x s ((i + 1) * a) := by
      obtain ⟨r, hr, e⟩ := hHas (i + 1) (by omega) (by omega)
      exact ⟨_, r, hr, e, rfl⟩
    have hS1 : IsV (if i + 1 = 0 then 0 else if h : ∃ x, IsV x s ((i + 1) * a) then Classical.choose h else 0) s ((i + 1) * a) := by
      rw [if_neg (by omega), dif_pos hex]; exact Classical.choose_spec hex
    by_cases h0 : i = 0
    · subst h0
      simp only [if_true]
      obtain ⟨w, hw, hwv⟩ := add_zero_isV hpv ha0 hH1
      rw [show floatBits .add .f64 0 p = double.add 0 p from rfl, hw]
      have hwv2 : IsV w s ((0 + 1) * a) := by rw [Nat.zero_add, Nat.one_mul]; exact hwv
      exact congrArg some (hwv2.unique hS1)
    · have hex0 : ∃ x, IsV x s (i * a) := by
        obtain ⟨r, hr, e⟩ := hHas i (by omega) (by omega)
        exact ⟨_, r, hr, e, rfl⟩
      have hS0 : IsV (if i = 0 then 0 else if h : ∃ x, IsV x s (i * a) then Classical.choose h else 0) s (i * a) := by
        rw [if_neg h0, dif_pos hex0]; exact Classical.choose_spec hex0
      obtain ⟨w, hw, hwv⟩ := add_isV hS0 hpv (Nat.mul_ne_zero h0 ha0) (by have := hHas (i + 1) (by omega) (by omega); rwa [Nat.add_mul, Nat.one_mul] at this)
      rw [show i * a + a = (i + 1) * a by rw [Nat.add_mul, Nat.one_mul]] at hwv
      show double.add _ p = _
      rw [hw]
      exact congrArg some (hwv.unique hS1)
  · have hp2 : 0 < 2 ^ k := Nat.two_pow_pos k
    have hex : ∃ x, IsV x s (2 ^ k * a) := ⟨_, hx⟩
    show (if 2 ^ k = 0 then 0 else if h : ∃ x, IsV x s (2 ^ k * a) then Classical.choose h else 0) = fx
    rw [if_neg (by omega), dif_pos hex]
    exact (Classical.choose_spec hex).unique hx
theorem mean_zero (fm m : Nat) (h : floatBits .quo .f64 0 fm = some 0) : MeanF 0 fm m 0 (fun _ => 0) := ⟨h, rfl, fun _ _ => (by decide +kernel : floatBits .add .f64 0 0 = some 0), rfl⟩
theorem ofInt_zero : floatOfInt .f64 0 = 0 := by decide +kernel
/-- the mean, whatever the integer -/
theorem mean_all (n : Int) (hb : n.natAbs ≤ 32768) (k : Nat) (hk : k ≤ 5) : ∃ p S, MeanF (floatOfInt .f64 n) (floatOfInt .f64 ((2 ^ k : Nat) : Int)) (2 ^ k) p S := by
  have hc : k = 0 ∨ k = 1 ∨ k = 2 ∨ k = 3 ∨ k = 4 ∨ k = 5 := by omega
  by_cases h0 : n = 0
  · subst h0
    rw [ofInt_zero]
    refine ⟨0, fun _ => 0, mean_zero _ _ ?_⟩
    rcases hc with rfl | rfl | rfl | rfl | rfl | rfl <;> decide +kernel
  · refine mean_part n h0 hb k hk _ ?_
    rcases hc with rfl | rfl | rfl | rfl | rfl | rfl <;> decide +kernel
theorem add_zero_ofInt (n : Int) (hb : n.natAbs ≤ 32768) : floatBits .add .f64 0 (floatOfInt .f64 n) = some (floatOfInt .f64 n) := by
  by_cases h0 : n = 0
  · subst h0; decide +kernel
  · have hx := ofInt_isV h0 hb
    obtain ⟨w, hw, hwv⟩ := add_zero_isV hx (shl_ne (by omega)) (has_small (by omega) (by omega) (by omega))
    rw [show floatBits .add .f64 0 (floatOfInt .f64 n) = double.add 0 (floatOfInt .f64 n) from rfl, hw, hwv.unique hx]
theorem fV_top : 2 ^ 1100 < fV double (double.infRung - 1) := by decide +kernel
set_option exponentiation.threshold 2000 in
theorem below_top {r N e : Nat} (hN : N ≤ 32768) (he : e ≤ 1080) (hv : fV double r = N <<< e) : r < double.infRung - 1 := by
  rcases Nat.lt_or_ge r (double.infRung - 1) with h | h
  · exact h
  · exfalso
    have h1 := fV_le (f := double) h
    have h3 : N <<< e ≤ 2 ^ (15 + e) := by
      rw [Nat.shiftLeft_eq, Nat.pow_add]
      exact Nat.mul_le_mul_right _ hN
    have h4 : 2 ^ (15 + e) ≤ 2 ^ 1100 := Nat.pow_le_pow_right (by decide) (by omega)
    rw [hv] at h1
    exact absurd (Nat.lt_of_lt_of_le fV_top (Nat.le_trans h1 (Nat.le_trans h3 h4))) (Nat.lt_irrefl _)
/-- what Clean asks of a weight -/
theorem order_ofInt (n : Int) (h0 : n ≠ 0) (hb : n.natAbs ≤ 32768) : FloatKind.f64.format.order (floatOfInt .f64 n) (floatOfInt .f64 n) = some .eq ∧ (FloatKind.f64.format.order (floatOfInt .f64 n) 0 = some .lt ∨ FloatKind.f64.format.order (floatOfInt .f64 n) 0 = some .gt) ∧ FloatKind.f64.format.order (floatOfInt .f64 n) 9218868437227405311 = some .lt ∧ FloatKind.f64.format.order 18442240474082181119 (floatOfInt .f64 n) = some .lt := by
  obtain ⟨r, hr, hv, hw⟩ := ofInt_isV h0 hb
  generalize floatOfInt .f64 n = x at *
  generalize decide (n < 0) = s at *
  have hlt := double_lt
  obtain ⟨a1, a2⟩ := wneg_word double s (r := r) (by omega)
  have hk : wk x = some (sgn s r) := by
    unfold wk fkey
    rw [hw, a1, a2, if_pos (Nat.le_of_lt hr)]
  have hr0 : r ≠ 0 := fun e => by
    rw [e, fV_zero] at hv
    exact absurd hv.symm (shl_ne (by omega))
  have hrt : r < double.infRung - 1 := below_top hb (by omega) hv
  have hi : double.infRung - 1 = 9218868437227405311 := by decide +kernel
  rw [hi] at hrt
  have km : wk 9218868437227405311 = some 9218868437227405311 := by decide +kernel
  have kn : wk 18442240474082181119 = some (-9218868437227405311) := by decide +kernel
  refine ⟨ord_self hk, ?_, ord_lt hk km ?_, ord_lt kn hk ?_⟩
  · cases s
    · exact .inr (ord_gt hk wk_zero (by simp [sgn]; omega))
    · exact .inl (ord_lt hk wk_zero (by simp [sgn]; omega))
  · cases s <;> simp [sgn] <;> omega
  · cases s <;> simp [sgn] <;> omega
end Go.Proofs.Ytmeilhjloeghhaa
namespace Go.Proofs.Ytmeilhjloeghhaa
open Go.RowKit

def fls (l : List Nat) : List Value := l.map (Value.float .f64)
theorem mk_floats (n : Nat) (hn : n ≤ 4096) (W : World) : (Instr.makeSlice 25 (.int .i64 n) (.int .i64 n)).run Try.prog W = .ok (.slice (some ⟨W.heap.size, 0, none⟩) n n) (W.alloc (.cells (madeCells #[.float .f64 0] n) 22)) := by
  obtain ⟨i0, hi, hz0, hz1, hz2⟩ := info_parts Try.infoFloat
  have h := run_make (P := Try.prog) W 25 22 i0 (.float .f64 0) Try.underlying25 hi hz0 .i64 .i64 n n (by omega) (Int.le_refl _) (by rw [hz2]; omega) (by omega)
  rw [h, hz1]
  simp [Value.cells]
theorem made_floats (x n : Nat) : (madeCells #[.float .f64 0] n).toList = fls (List.replicate 0 x ++ List.replicate (n - 0) 0) := by
  apply List.ext_getElem?
  intro j
  by_cases hj : j < n
  · have e : j % 1 = 0 := by omega
    simp [madeCells, fls, hj, e]
  · rw [List.getElem?_eq_none (by simp [madeCells]; omega), List.getElem?_eq_none (by simp [fls]; omega)]
theorem fls_len (l : List Nat) : (fls l).length = l.length := by simp [fls]
theorem fl_set {x i n : Nat} (h : i < n) : (List.replicate i x ++ List.replicate (n - i) 0).set i x = List.replicate (i + 1) x ++ List.replicate (n - (i + 1)) 0 := by
  have e : List.replicate (n - i) 0 = 0 :: List.replicate (n - (i + 1)) 0 := by rw [show n - i = n - (i + 1) + 1 by omega]; rfl
  rw [e, List.set_append_right _ _ (by simp), List.length_replicate, Nat.sub_self, List.set_cons_zero, List.replicate_succ']
  simp
theorem fl_zero {i n : Nat} (h : i < n) : List.replicate i 0 ++ List.replicate (n - i) 0 = List.replicate (i + 1) 0 ++ List.replicate (n - (i + 1)) 0 := by
  rw [List.replicate_append_replicate, List.replicate_append_replicate]; congr 1; omega
@[go_sem] theorem run_store_flt {P : Program} (w : World) (a : Addr) (m) (k : FloatKind) (n : Nat) : (store a (.float k n) m).run P w = stored P w a (.float k n) m := run_store P w a _ m rfl
theorem run_minF (ts : Array TypeId) (t : TypeId) (x y : Nat) (h : FloatKind.f64.format.order x y = some .lt) (w : World) : (Builtin.min_ ts t #[.float .f64 x, .float .f64 y]).run Try.prog w = .ok (.float .f64 x) w := by
  simp [Builtin.min_, Builtin.min2, h]
theorem run_maxF (ts : Array TypeId) (t : TypeId) (x y : Nat) (h : FloatKind.f64.format.order x y = some .lt) (w : World) : (Builtin.max_ ts t #[.float .f64 x, .float .f64 y]).run Try.prog w = .ok (.float .f64 y) w := by
  simp [Builtin.max_, Builtin.max2, h]
/-- what Clean asks of a weight -/
def CleanX (x : Nat) : Prop := x = 0 ∨ (FloatKind.f64.format.order x x = some .eq ∧ (FloatKind.f64.format.order x 0 = some .lt ∨ FloatKind.f64.format.order x 0 = some .gt) ∧ FloatKind.f64.format.order x 9218868437227405311 = some .lt ∧ FloatKind.f64.format.order 18442240474082181119 x = some .lt)
set_option maxRecDepth 100000 in
set_option maxHeartbeats 1600000 in
theorem clean_c (v : Value) (x m : Nat) (w : World) (h : FlAt w v (List.replicate m x)) (hm : m ≤ 4096) (hx : CleanX x) :
    Calls Try.prog 23 #[v] w fun e w' => ∃ blk, e = .returned (.slice (some ⟨blk, 0, none⟩) m m) ∧ FlAt w' (.slice (some ⟨blk, 0, none⟩) m m) (List.replicate m x) ∧ Below w.heap.size w w' := by
  obtain ⟨ao, cap, rfl, _⟩ := h.1.shape
  have H := Lib.hid h
  have hlen : (List.replicate m x).length = m := List.length_replicate
  have HMK := mk_floats m hm w
  obtain ⟨V, hV⟩ : ∃ V, V = w.alloc (.cells (madeCells #[.float .f64 0] m) 22) := ⟨_, rfl⟩
  have BV : Hid (Below w.heap.size w V) := by rw [hV]; exact (Below.refl _ _).alloc (Nat.le_refl _) _
  have sV : Hid (V.heap.size = w.heap.size + 1) := by show _ = _; rw [hV]; simp
  have XR : Hid (BoxL V w.heap.size (fls (List.replicate 0 x ++ List.replicate (m - 0) 0))) := by
    rw [← made_floats, hV]; exact BoxL.mk' w (madeCells #[.float .f64 0] m) 22
  have HV := Lib.hid hV
  have HX := Lib.hid hx
  rw [hlen]
  clear h hV hx hlen
  go_enter Try.func23, Try.ntmps23
  go_upto_region 2 with fail
  rw [← HV.out]
  clear HV HMK
  go_upto_region 3 with fail
  go_loopg [4, 5, 11] m (fun f s4 s5 s wr => ∃ i : Nat, s = .int .i64 i ∧ i ≤ m ∧ Hid (f = m - i) ∧ Hid (BoxL wr w.heap.size (fls (List.replicate i x ++ List.replicate (m - i) 0))) ∧ Hid (Below w.heap.size V wr))
  case atStart => exact ⟨0, rfl, by omega, rfl, XR, Below.refl _ _⟩
  case round =>
    obtain ⟨i, rfl, hi, HN, HR, HW⟩ := hrel
    by_cases hlt : i < m
    · have hli : (i : Int) < m := by omega
      obtain ⟨b, off, cap', he, hcap, hbs, hc⟩ := FlAt.at (H.out.below (BV.out.trans HW.out)) (by simp; omega)
      simp only [Value.slice.injEq, List.length_replicate] at he
      obtain ⟨rfl, -, rfl⟩ := he
      have c1 := hc i (by simp; exact hlt)
      rw [List.getElem_replicate] at c1
      have hil : i < (fls (List.replicate i x ++ List.replicate (m - i) 0)).length := by rw [fls_len]; simp; omega
      obtain ⟨g1, g2⟩ := HR.out.get i (List.getElem?_eq_getElem hil)
      have HNX : Hid (BoxL (wr.setCell ⟨w.heap.size, i, none⟩ (.float .f64 x)) w.heap.size (fls (List.replicate (i + 1) x ++ List.replicate (m - (i + 1)) 0))) := by
        have h := HR.out.set i hil (.float .f64 x)
        rw [← fl_set hlt]
        unfold fls at h ⊢
        rw [List.map_set]; exact h
      have HNB : Hid (Below w.heap.size V (wr.setCell ⟨w.heap.size, i, none⟩ (.float .f64 x))) := HW.out.setCell (p := ⟨w.heap.size, i, none⟩) (Nat.le_refl _) _
      generalize (fls (List.replicate i x ++ List.replicate (m - i) 0))[i] = u at *
      clear hil hc hcap
      rcases HX.out with h0 | ⟨h1, h2, h3, h4⟩
      · have HZ : Hid (BoxL wr w.heap.size (fls (List.replicate (i + 1) x ++ List.replicate (m - (i + 1)) 0))) := by
          have h := HR.out
          rw [h0, fl_zero hlt] at h
          rw [h0]; exact h
        clear HNX HNB HR
        subst h0
        have h5 : FloatKind.f64.format.order 0 0 = some .eq := by decide +kernel
        go_wp2
        go_roundg (m - (i + 1))
        case measure => have := HN.out; omega
        case rel => exact ⟨i + 1, by go_num, by omega, rfl, HZ, HW⟩
      · have r3 := fun (w : World) => run_minF #[22, 22] 22 x 9218868437227405311 h3 w
        have r4 := fun (w : World) => run_maxF #[22, 22] 22 18442240474082181119 x h4 w
        rcases h2 with h2 | h2
        all_goals
          go_wp2
          go_roundg (m - (i + 1))
          case measure => have := HN.out; omega
          case rel => exact ⟨i + 1, by go_num, by omega, rfl, HNX, HNB⟩
    · have hli : ¬ ((i : Int) < m) := by omega
      obtain rfl : i = m := by omega
      have HF : Hid (FlAt wr (.slice (some ⟨w.heap.size, 0, none⟩) i i) (List.replicate i x)) := by
        have h := HR.out
        rw [Nat.sub_self, List.replicate_zero, List.append_nil] at h
        refine ⟨⟨by simp, some ⟨w.heap.size, 0, none⟩, i, by simp, by simp, by simp [maxLen]; omega, (fun h => by cases h), fun _ => ⟨w.heap.size, 0, rfl, by have := HW.out.size; have := sV.out; omega, fun j hj => by rw [Nat.zero_add]; exact (h j (by rw [fls_len]; simpa using hj)).1⟩⟩, H.out.2⟩
      go_wp2
      go_ret
      exact ⟨_, rfl, HF.out, BV.out.trans HW.out⟩
set_option maxRecDepth 100000 in
set_option maxHeartbeats 1600000 in
theorem mean_c (v : Value) (x m p : Nat) (S : Nat → Nat) (w : World) (h : FlAt w v (List.replicate m x)) (hm : m ≤ 4096) (hx : CleanX x) (hM : MeanF x (floatOfInt .f64 (m : Int)) m p S) :
    Calls Try.prog 15 #[v] w fun e w' => e = .returned (.float .f64 x) ∧ Below w.heap.size w w' := by
  obtain ⟨ao, cap, rfl, _⟩ := h.1.shape
  have hlen : (List.replicate m x).length = m := List.length_replicate
  have CC := Lib.hid (clean_c _ x m w h hm hx)
  have HM := Lib.hid hM
  rw [hlen] at *
  clear h hx hM hlen
  go_enter Try.func15, Try.ntmps15
  go_upto_region 3 with (first | (go_at_call 23; (with_reducible refine CC.out.mono ?_); rintro e W1 ⟨blk, rfl, fl, bb⟩; have F1 := Lib.hid fl; have B1 := Lib.hid bb; clear fl bb))
  go_loopg [3, 5, 6, 10] m (fun f s3 s5 s6 s wr => ∃ i : Nat, s = .int .i64 i ∧ s3 = .float .f64 (S i) ∧ i ≤ m ∧ Hid (f = m - i) ∧ Hid (wr = W1))
  case atStart => exact ⟨0, rfl, by rw [HM.out.2.1], by omega, rfl, rfl⟩
  case round =>
    obtain ⟨i, rfl, rfl, hi, HN, HW⟩ := hrel
    obtain rfl := HW.out
    by_cases hlt : i < m
    · have hli : (i : Int) < m := by omega
      obtain ⟨b, off, cap', he, hcap, hbs, hc⟩ := FlAt.at F1.out (by simp; omega)
      simp only [Value.slice.injEq, Option.some.injEq, Addr.mk.injEq, and_true, List.length_replicate] at he
      obtain ⟨⟨rfl, rfl⟩, -, rfl⟩ := he
      have c1 := hc i (by simp; exact hlt)
      rw [List.getElem_replicate, Nat.zero_add] at c1
      have r1 := fun (w : World) => run_float_arith (P := Try.prog) w .quo 22 .f64 _ _ _ HM.out.1
      have r2 := fun (w : World) => run_float_arith (P := Try.prog) w .add 22 .f64 _ _ _ (HM.out.2.2.1 i hlt)
      clear hc hcap
      go_wp2
      go_roundg (m - (i + 1))
      case measure => have := HN.out; omega
      case rel => exact ⟨i + 1, by go_num, rfl, by omega, rfl, rfl⟩
    · have hli : ¬ ((i : Int) < m) := by omega
      obtain rfl : i = m := by omega
      have HS := Lib.hid HM.out.2.2.2
      go_wp2
      go_ret
      exact ⟨by rw [HS.out]; rfl, B1.out⟩
end Go.Proofs.Ytmeilhjloeghhaa
namespace Go.Proofs.Ytmeilhjloeghhaa
open Go.RowKit

theorem best_like (x m : Nat) (hm : 0 < m) : bsb (List.replicate m x) = some 0 := by
  unfold bsb
  rw [List.length_replicate]
  have hk : ∀ j, j < m → keyAt (List.replicate m x) j = wk x := fun j hj => by unfold keyAt; rw [List.getD_eq_getElem?_getD, List.getElem?_replicate]; simp [hj]
  have h : ∀ n, n < m → bestI (keyAt (List.replicate m x)) (fun _ => false) (n + 1) = some 0 := by
    intro n
    induction n with
    | zero => intro _; simp [bestI]
    | succ n ih =>
      intro hn
      have h1 := ih (by omega)
      unfold bestI
      rw [h1]
      simp [hk _ hn, hk 0 hm, lessK_irrefl]
  have := h (m - 1) (by omega)
  rwa [show m - 1 + 1 = m by omega] at this
set_option maxRecDepth 100000 in
set_option maxHeartbeats 3200000 in
theorem weighMean_any (n t : Int) (w : World) (hn : -32768 ≤ n ∧ n ≤ 32767) (ht : 0 ≤ t ∧ t ≤ 255) :
    Calls Try.prog 6 #[.int .i16 n, .int .u8 t] w fun e w' => e = .returned (.bool true) ∧ Below w.heap.size w w' := by
  obtain ⟨i0, hi, hz0, hz1, hz2⟩ := info_parts Try.infoFloat
  obtain ⟨k, hk⟩ : ∃ k : Nat, t % 6 = (k : Int) := ⟨(t % 6).toNat, by omega⟩
  have hk5 : k ≤ 5 := by omega
  have hkt : Int.tmod t 6 = (k : Int) := by rw [Int.tmod_eq_emod_of_nonneg ht.1]; exact hk
  have hnb : n.natAbs ≤ 32768 := by omega
  obtain ⟨p, S, hM⟩ := mean_all n hnb k hk5
  have hA := add_zero_ofInt n hnb
  have hX : CleanX (floatOfInt .f64 n) := by
    by_cases h0 : n = 0
    · subst h0; exact .inl ofInt_zero
    · exact .inr (order_ofInt n h0 hnb)
  have hx64 : floatOfInt .f64 n < 2 ^ 64 := by
    have h := floatOfInt_wf .f64 n
    simpa [Lit.wf] using h
  obtain ⟨x, hx⟩ : ∃ x, x = floatOfInt .f64 n := ⟨_, rfl⟩
  rw [← hx] at hM hA hX hx64
  obtain ⟨m, hm⟩ : ∃ m, m = 2 ^ k := ⟨_, rfl⟩
  rw [← hm] at hM
  have hmp : 0 < m := by rw [hm]; exact Nat.two_pow_pos k
  have hm32 : m ≤ 32 := by
    rw [hm]
    have : (2 : Nat) ^ k ≤ 2 ^ 5 := Nat.pow_le_pow_right (by decide) hk5
    omega
  have HM := Lib.hid hM
  have HA := Lib.hid hA
  have HX := Lib.hid hX
  have HXX := Lib.hid hx
  have HMK := Lib.hid hm
  have CM : Hid (∀ v W, FlAt W v (List.replicate m x) → Calls Try.prog 15 #[v] W fun e w' => e = .returned (.float .f64 x) ∧ Below W.heap.size W w') := fun v W h => mean_c v x m p S W h (by omega) hX hM
  have CB : Hid (∀ v W, FlAt W v (List.replicate m x) → Calls Try.prog 12 #[v, .slice none 0 0] W fun e w' => e = .returned (.int .i64 0) ∧ Below W.heap.size W w') := fun v W h => by
    have h2 := best_c v (List.replicate m x) W h (by simp; omega)
    rw [best_like x m hmp] at h2
    exact h2
  have CT : Hid (∀ w, Calls Try.prog 14 #[.float .f64 x, .float .f64 x] w fun e w' => e = .returned (.bool true) ∧ w = w') := fun w => twin_self x hx64 w
  clear hM hA hX hx hm
  go_enter Try.func6, Try.ntmps6
  go_upto_region 1 with fail
  go_cut [5] (fun v wx => v = .int .i64 (m : Int) ∧ w = wx)
  case first =>
    have hc : k = 0 ∨ k = 1 ∨ k = 2 ∨ k = 3 ∨ k = 4 ∨ k = 5 := by omega
    rcases hc with rfl | rfl | rfl | rfl | rfl | rfl
    all_goals
      obtain rfl := HMK.out
      go_wp2_with fail
      go_meet
      exact ⟨rfl, rfl⟩
  case rest =>
    obtain ⟨rfl, hwc⟩ := hcut
    subst hwc
    obtain ⟨V, hV⟩ : ∃ V, V = w.alloc (.cells #[] 22) := ⟨_, rfl⟩
    have BV : Hid (Below w.heap.size w V) := by rw [hV]; exact (Below.refl _ _).alloc (Nat.le_refl _) _
    have R0 : Hid (V.ownsRow w.heap.size 22 1 (.slice (some ⟨w.heap.size, 0, none⟩) 0 0) 0 (fls (List.replicate 0 x))) := by rw [hV]; exact World.ownsRow_made w #[] 0 (Nat.le_refl _) (by decide) rfl
    have HV := Lib.hid hV
    clear hV hk hkt
    go_upto_region 3 with fail
    rw [← HV.out]
    clear HV
    go_upto_region 4 with fail
    go_loopg [6, 7] m (fun f o s wr => ∃ (i : Nat) (oa : Option Addr) (oc : Nat), o = .slice oa i oc ∧ s = .int .i64 i ∧ i ≤ m ∧ Hid (f = m - i) ∧ Hid (wr.ownsRow w.heap.size 22 1 (.slice oa i oc) i (fls (List.replicate i x))) ∧ Hid (Below w.heap.size w wr))
    case atStart => exact ⟨0, some ⟨w.heap.size, 0, none⟩, 0, rfl, rfl, by omega, rfl, R0, BV⟩
    case round =>
      obtain ⟨i, oa, oc, rfl, rfl, hi', HN, HO, HW⟩ := hrel
      by_cases hlt : i < m
      · have hki : (i : Int) < m := by omega
        have hub : w.heap.size ≤ wr.heap.size := HW.out.size
        have hfx : floatOfInt .f64 n = x := HXX.out.symm
        have HSN : Hid (fls (List.replicate i x) ++ [.float .f64 x] = fls (List.replicate (i + 1) x)) := by
          show _ = _
          rw [List.replicate_succ']; simp [fls]
        go_wp2_with (at_builtin; refine wpList_append1 rfl (.tmp 17) (.tmp 20) 25 rfl w.heap.size 22 i0 (.float .f64 0) 8 Try.underlying25 hi hz0 hz1 hz2 rfl _ i _ rfl HO.out (.float .f64 x) rfl rfl (by omega) hub ?_; intro v2 w2 o2 b2 g2; obtain ⟨na, nc, rfl, _⟩ := (SlAt.of_own o2).shape; have O2 := Lib.hid o2; have B2 := Lib.hid b2; clear o2 b2 g2)
        go_roundg (m - (i + 1))
        case measure => have := HN.out; omega
        case rel => exact ⟨i + 1, na, nc, rfl, by go_num, by omega, rfl, Lib.hid (by rw [← HSN.out]; exact O2.out), HW.out.trans B2.out⟩
      · have hki : ¬ ((i : Int) < m) := by omega
        obtain rfl : i = m := by omega
        have HF : Hid (FlAt wr (.slice oa i oc) (List.replicate i x)) := ⟨by have h := SlAt.of_own HO.out; simpa [fls] using h, fun b hb => by rw [(List.mem_replicate.1 hb).2]; exact hx64⟩
        have hfx : floatOfInt .f64 n = x := HXX.out.symm
        have r1 := fun (w : World) => run_float_arith (P := Try.prog) w .add 22 .f64 _ _ _ HA.out
        clear HO
        go_wp2_with (first
          | (go_at_call 15; (with_reducible refine (CM.out _ _ HF.out).mono ?_); rintro e W1 ⟨rfl, bb⟩; have F1 := Lib.hid (HF.out.below bb); have B1 := Lib.hid (HW.out.trans (bb.mono HW.out.size)); clear bb)
          | (go_at_call 14; (with_reducible refine (CT.out _).mono ?_); rintro e W2 ⟨rfl, rfl⟩)
          | (go_at_call 12; (with_reducible refine (CB.out _ _ F1.out).mono ?_); rintro e W3 ⟨rfl, bb⟩; have B3 := Lib.hid (B1.out.trans (bb.mono B1.out.size)); clear bb))
        go_ret
        exact ⟨rfl, B3.out⟩
end Go.Proofs.Ytmeilhjloeghhaa
namespace Go.Proofs.Ytmeilhjloeghhaa
open Go.RowKit Go.ChangeShapes Go.WideShapes Go.ChangeAt

theorem cellsF : Try.prog.cellsOf 22 = 1 := by kernel_rfl
theorem Try.trod_float {H : Type} {enc : TypeId × Value → H} {P : Program} {w : World} {base : Nat} {sp : Nat → Bool} {held : Bool} {fuel : Nat} {t : TypeId} {k : FloatKind} {cs : List Value} {x : DataW H × List MemPlace} (ht : P.underlying t = some (.float k)) (h : DataW.trod enc P w base sp held fuel t cs = some x) :
    ∃ n, cs = [.float k n] ∧ x = (.lit (.float k n), []) ∧ (Lit.float k n).wf = true := by
  cases fuel with
  | zero => simp [DataW.trod] at h
  | succ n =>
    unfold DataW.trod at h
    rw [ht] at h
    split at h <;> simp_all
/-- a slice of floats that comes in -/
theorem open_fs {H : Type} {enc : TypeId × Value → H} {w : World} {sp : Nat → Bool} {held : Bool} {base : Nat} {v : Value} {d : DataW H} {ps : List MemPlace}
    (hval : Value.okWide Try.prog w .any base 25 v) (h0 : DataW.Trod enc Try.prog w 0 sp held 25 v d ps) : ∃ zs : List Nat, FlAt w v zs := by
  obtain ⟨a0, l0, c0, rfl⟩ := okWide_slice Try.underlying25 hval
  obtain ⟨fuel, h⟩ := Joins.field_of_Trod h0 rfl
  obtain ⟨n, xs, hS, hE⟩ := open_sl (k := 1) Try.underlying25 cellsF h
  have hx : ∀ i, i < n → ∃ z : Nat, xs[i]? = some (.float .f64 z) ∧ (Lit.float .f64 z).wf = true := fun i hi => by
    obtain ⟨m, y, hy⟩ := hE i hi
    obtain ⟨z, hz, _, hwf⟩ := Try.trod_float Try.underlying22 hy
    refine ⟨z, ?_, hwf⟩
    have := congrArg (·[0]?) hz
    simpa [List.getElem?_take, List.getElem?_drop] using this
  obtain ⟨f, hf⟩ := Deep.choose_lt hx
  have hl := hS.len
  have e : xs = ((List.range n).map f).map (Value.float .f64) := by
    apply List.ext_getElem?
    intro i
    by_cases hi : i < n
    · rw [(hf i hi).1]; simp [hi]
    · rw [List.getElem?_eq_none (by omega), List.getElem?_eq_none (by simp; omega)]
  refine ⟨(List.range n).map f, ?_, fun z hz => ?_⟩
  · rw [← e]
    simpa using hS
  · obtain ⟨i, hi, rfl⟩ := List.mem_map.1 hz
    simpa [Lit.wf] using (hf i (by simpa using hi)).2
theorem cellsB : Try.prog.cellsOf 4 = 1 := by kernel_rfl
theorem open_bools {H : Type} {enc : TypeId × Value → H} {w : World} {sp : Nat → Bool} {held : Bool} {base : Nat} {v : Value} {d : DataW H} {ps : List MemPlace}
    (hval : Value.okWide Try.prog w .any base 36 v) (h0 : DataW.Trod enc Try.prog w 0 sp held 36 v d ps) : ∃ zs : List Bool, BoAt w v zs := by
  obtain ⟨a0, l0, c0, rfl⟩ := okWide_slice Try.underlying36 hval
  obtain ⟨fuel, h⟩ := Joins.field_of_Trod h0 rfl
  obtain ⟨n, xs, hS, hE⟩ := open_sl (k := 1) Try.underlying36 cellsB h
  have hx : ∀ i, i < n → ∃ z : Bool, xs[i]? = some (.bool z) := fun i hi => by
    obtain ⟨m, y, hy⟩ := hE i hi
    obtain ⟨z, hz, _⟩ := DataW.trod_bool Try.underlying4 hy
    refine ⟨z, ?_⟩
    have := congrArg (·[0]?) hz
    simpa [List.getElem?_take, List.getElem?_drop] using this
  obtain ⟨f, hf⟩ := Deep.choose_lt hx
  have hl := hS.len
  have e : xs = ((List.range n).map f).map Value.bool := by
    apply List.ext_getElem?
    intro i
    by_cases hi : i < n
    · rw [hf i hi]; simp [hi]
    · rw [List.getElem?_eq_none (by omega), List.getElem?_eq_none (by simp; omega)]
  refine ⟨(List.range n).map f, ?_⟩
  unfold BoAt
  rw [← e]
  simpa using hS
end Go.Proofs.Ytmeilhjloeghhaa
