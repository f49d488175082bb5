/-
  PLAIN LAWS: of smaller sets what a constraint says once is smaller (or nothing); what it says hangs on its own variables alone; no program.
  slices.Clone of ranges and of integers; rel.down, rel.up, walked.
-/
import Derived.Test.YtajooiainglpmaaGreatKonce2
import Derived.Test.YtajooiainglpmaaGreatKonce1
import Derived.Test.YtajooiainglpmaaGreatKdom3
import Derived.Test.YtajooiainglpmaaGreatKlin2
import Derived.Test.YtajooiainglpmaaGreatKrel1
import Derived.Lib.SliceRun
namespace Go.Proofs.YtajooiainglpmaaGreat

/-- included at some variables -/
def LeOn (l : List Int) (a b : Ds) : Prop := ∀ v ∈ l, ∀ x, memL (domOf a v) x = true → memL (domOf b v) x = true
theorem onceGo_subJ (J : Nat → Prop) (rel c : Int) (ds' ds : Ds) (all : Ps) (h : ∀ p ∈ all, SubD (domOf ds' p.2) (domOf ds p.2)) (ho : allOk ds' all = true) :
    ∀ (ps : Ps) (o' o r' : Ds), (∀ p ∈ ps, p ∈ all) → o'.length = o.length → (∀ j, J j → ∀ x, memL (o'.getD j []) x = true → memL (o.getD j []) x = true) →
      onceGo rel c ds' (loS ds' all) (hiS ds' all) ps o' = some r' → ∃ r, onceGo rel c ds (loS ds all) (hiS ds all) ps o = some r ∧ ∀ j, J j → ∀ x, memL (r'.getD j []) x = true → memL (r.getD j []) x = true
  | [], o', o, r', _, _, hs, hr => by simp [onceGo] at hr; subst hr; exact ⟨o, rfl, hs⟩
  | p :: ps, o', o, r', hin, hl, hs, hr => by
    unfold onceGo at hr ⊢
    split at hr
    · cases hr
    · rename_i hne
      have hsub := narrow_sub rel c ds' ds all h ho p (hin p (by simp))
      obtain ⟨x, hx⟩ := normal_some (narrow_normal _ _ _ _ _ _) hne
      rw [if_neg (mem_ne_nil (hsub x hx))]
      refine onceGo_subJ J rel c ds' ds all h ho ps _ _ r' (fun q hq => hin q (by simp [hq])) (by simpa using hl) (fun j hj y hy => ?_) hr
      rw [getD_set] at hy ⊢
      by_cases hc : p.2.toNat = j ∧ j < o'.length
      · rw [if_pos hc] at hy; rw [if_pos ⟨hc.1, by omega⟩]; exact hsub y hy
      · rw [if_neg hc] at hy; rw [if_neg (by rw [← hl]; exact hc)]; exact hs j hj y hy
theorem once_subJ (J : Nat → Prop) (rel c : Int) (ds' ds : Ds) (ps : Ps) (hl : ds'.length = ds.length) (h' : ∀ p ∈ ps, SubD (domOf ds' p.2) (domOf ds p.2)) (h : ∀ j, J j → SubD (ds'.getD j []) (ds.getD j [])) (r' : Ds) (hr : onceL rel c ds' ps = some r') :
    ∃ r, onceL rel c ds ps = some r ∧ ∀ j, J j → ∀ x, memL (r'.getD j []) x = true → memL (r.getD j []) x = true := by
  unfold onceL at *
  split at hr
  · rename_i ho
    rw [if_pos (allOk_sub ds' ds ps h' ho)]
    split at hr
    · cases hr
    · rename_i hn
      rw [if_neg (by
        rintro ⟨rfl, h2⟩
        rw [says_nil] at h2
        exact hn ⟨rfl, (says_nil _ _ _).2 h2⟩)]
      refine onceGo_subJ J rel c ds' ds ps h' ho ps _ _ r' (fun _ h => h) (by simpa using hl) (fun j hj x hx => ?_) hr
      rw [getD_map_norm] at *
      exact h j hj x hx
  · cases hr
theorem subD_on {l : List Int} {A B : Ds} (hA : AllN A) (hB : AllN B) (h : LeOn l A B) {v : Int} (hv : v ∈ l) : SubD (domOf A v) (domOf B v) := fun x hx => by
  have e1 : norm (domOf A v) = domOf A v := norm_of_normal (hA _)
  have e2 : norm (domOf B v) = domOf B v := norm_of_normal (hB _)
  rw [e1] at hx; rw [e2]
  exact h v hv x hx
theorem lin_mono {rel c : Int} {ps : Ps} {vars : List Int} {A B : Ds} (hA : AllN A) (hB : AllN B) (hl : A.length = B.length) (hps : ∀ p ∈ ps, p.2 ∈ vars) (h : LeOn vars A B) {ks : Ks} (hk : linKs rel c ps vars A = some ks) :
    ∃ ks', linKs rel c ps vars B = some ks' ∧ ∀ k' ∈ ks', ∃ k ∈ ks, k.1 = k'.1 ∧ ∀ x, memL k.2 x = true → memL k'.2 x = true := by
  unfold linKs at hk ⊢
  obtain ⟨o, ho, rfl⟩ := Option.map_eq_some_iff.1 hk
  obtain ⟨r, hr, hs⟩ := once_subJ (fun j => ∃ v ∈ vars, v.toNat = j) rel c A B ps hl (fun p hp => subD_on hA hB h (hps p hp)) (fun j ⟨v, hv, e⟩ => by subst e; exact subD_on hA hB h hv) o ho
  rw [hr]
  refine ⟨_, rfl, fun k' hk' => ?_⟩
  obtain ⟨v, hv, rfl⟩ := List.mem_map.1 hk'
  exact ⟨(v, domOf o v), List.mem_map.2 ⟨v, hv, rfl⟩, rfl, fun x hx => hs v.toNat ⟨v, hv, rfl⟩ x hx⟩
/-- what is kept at a variable lies in what it had, and in each set that was met there -/
theorem keeps_in {ks : Ks} {A : Ds} (hA : AllN A) {v x : Int} (hv : v.toNat < A.length) (hx : memL (domOf (keepsL ks A) v) x = true) : memL (domOf A v) x = true ∧ ∀ k ∈ ks, k.1 = v → memL k.2 x = true := by
  have hx' : memL ((keepsL ks A).getD v.toNat []) x = true := hx
  rw [keepsL_mem x _ ks hA hv, Bool.and_eq_true, List.all_eq_true] at hx'
  refine ⟨hx'.1, fun k hk e => ?_⟩
  have := hx'.2 k hk
  rw [e] at this
  simpa using this
theorem ends_mono {d e : List Rg} (hd : Normal d) (he : Normal e) (hne : d ≠ []) (h : ∀ x, memL d x = true → memL e x = true) : loD e ≤ loD d ∧ hiD d ≤ hiD e ∧ loD d ≤ hiD d := by
  have hn := norm_of_normal hd
  have hok : okT d = true := by rw [okT_nil, hn]; simp [hne]
  have h1 : memL d (loD d) = true := by have := (ends_in d hok).1; unfold loD; rw [hn] at *; exact this
  have h2 : memL d (hiD d) = true := by have := (ends_in d hok).2; unfold hiD; rw [hn] at *; exact this
  exact ⟨(lo_hi he (h _ h1)).1, (lo_hi he (h _ h2)).2, (lo_hi hd h1).2⟩
theorem hasW_mono {v lo hi a b lo' hi' a' b' : Int} (h1 : lo' ≤ lo) (h2 : hi ≤ hi') (h3 : a' ≤ a) (h4 : b ≤ b') (h : hasW v lo hi a b = true) : hasW v lo' hi' a' b' = true := by
  rw [hasW_iff] at *
  obtain ⟨w, g1, g2, g3, g4⟩ := h
  exact ⟨w, by omega, by omega, by omega, by omega⟩
theorem prodR_mono {X Y X' Y' : List Rg} (hx : loD X' ≤ loD X ∧ hiD X ≤ hiD X' ∧ loD X ≤ hiD X) (hy : loD Y' ≤ loD Y ∧ hiD Y ≤ hiD Y' ∧ loD Y ≤ hiD Y) {v : Int} (h : memL (prodR X Y) v = true) : memL (prodR X' Y') v = true := by
  have c1 := prod_mono (a := loD X') (b := hiD X') (e := loD Y') (f := hiD Y') (x := loD X) (y := loD Y) ⟨by omega, by omega⟩ ⟨by omega, by omega⟩
  have c2 := prod_mono (a := loD X') (b := hiD X') (e := loD Y') (f := hiD Y') (x := loD X) (y := hiD Y) ⟨by omega, by omega⟩ ⟨by omega, by omega⟩
  have c3 := prod_mono (a := loD X') (b := hiD X') (e := loD Y') (f := hiD Y') (x := hiD X) (y := loD Y) ⟨by omega, by omega⟩ ⟨by omega, by omega⟩
  have c4 := prod_mono (a := loD X') (b := hiD X') (e := loD Y') (f := hiD Y') (x := hiD X) (y := hiD Y) ⟨by omega, by omega⟩ ⟨by omega, by omega⟩
  unfold prodR at *
  generalize min4 (loD X' * loD Y') (loD X' * hiD Y') (hiD X' * loD Y') (hiD X' * hiD Y') = m' at *
  generalize max4 (loD X' * loD Y') (loD X' * hiD Y') (hiD X' * loD Y') (hiD X' * hiD Y') = M' at *
  generalize loD X * loD Y = p1 at *
  generalize loD X * hiD Y = p2 at *
  generalize hiD X * loD Y = p3 at *
  generalize hiD X * hiD Y = p4 at *
  simp only [memL, List.any_cons, List.any_nil, Bool.or_false, Bool.and_eq_true, decide_eq_true_eq] at h ⊢
  unfold min4 max4 at h
  omega
theorem yes_mono {rel c lo hi lo' hi' : Int} (h1 : lo ≤ lo') (h2 : hi' ≤ hi) (h3 : lo' ≤ hi') (h : yesL rel c lo hi = true) : yesL rel c lo' hi' = true := by
  unfold yesL at *
  split
  · rename_i h4; rw [if_pos h4] at h; simp at *; omega
  · rename_i h4
    rw [if_neg h4] at h
    split
    · rename_i h5; rw [if_pos h5] at h; simp at *; omega
    · rename_i h5; rw [if_neg h5] at h; simp at *; omega
theorem no_mono {rel c lo hi lo' hi' : Int} (h1 : lo ≤ lo') (h2 : hi' ≤ hi) (h3 : lo' ≤ hi') (h : noL rel c lo hi = true) : noL rel c lo' hi' = true := by
  unfold noL at *
  split
  · rename_i h4; rw [if_pos h4] at h; simp at *; omega
  · rename_i h4
    rw [if_neg h4] at h
    split
    · rename_i h5; rw [if_pos h5] at h; simp at *; omega
    · rename_i h5; rw [if_neg h5] at h; simp at *; omega
theorem yes_no {rel c lo hi : Int} (h3 : lo ≤ hi) (h : noL rel c lo hi = true) : yesL rel c lo hi = false := by
  unfold noL at h
  unfold yesL
  split
  · rename_i h4; rw [if_pos h4] at h; simp at *; omega
  · rename_i h4
    rw [if_neg h4] at h
    split
    · rename_i h5; rw [if_pos h5] at h; simp at *; omega
    · rename_i h5; rw [if_neg h5] at h; simp at *; omega
theorem says_mono {rel c : Int} {A B : Ds} {ps : Ps} (h : ∀ p ∈ ps, SubD (domOf A p.2) (domOf B p.2)) (ho : allOk A ps = true) :
    (saysL rel c B ps = 1 → saysL rel c A ps = 1) ∧ (saysL rel c B ps = -1 → saysL rel c A ps = -1) := by
  have hB := allOk_sub A B ps h ho
  obtain ⟨a, b⟩ := sums_sub A B ps h ho
  have c1 := (sums_le_but A ps ho).1
  unfold saysL
  rw [if_pos ho, if_pos hB]
  by_cases y : yesL rel c (loS B ps) (hiS B ps) = true
  · have y2 := yes_mono a b c1 y
    rw [if_pos y, if_pos y2]; simp
  · rw [if_neg y]
    by_cases n : noL rel c (loS B ps) (hiS B ps) = true
    · have n2 := no_mono a b c1 n
      rw [if_pos n, if_neg (by rw [yes_no c1 n2]; decide), if_pos n2]; simp
    · rw [if_neg n]; simp
theorem may_mono {s t x : Int} (h1 : t = 1 → s = 1) (h2 : t = -1 → s = -1) (h : memL (mayL s) x = true) : memL (mayL t) x = true := by
  unfold mayL at *
  by_cases t1 : t = 1
  · rw [if_pos t1]; rw [if_pos (h1 t1)] at h; exact h
  · rw [if_neg t1]
    by_cases t2 : t = -1
    · have e := h2 t2
      rw [if_pos t2]; rw [if_neg (by omega), if_pos e] at h; exact h
    · rw [if_neg t2]
      split at h
      · simp [memL] at *; omega
      · split at h
        · simp [memL] at *; omega
        · exact h
theorem may_in {s x : Int} (h : memL (mayL s) x = true) : x = 0 ∨ x = 1 := by
  unfold mayL at h
  split at h
  · simp [memL] at h; omega
  · split at h
    · simp [memL] at h; omega
    · simp [memL] at h; omega
theorem inD01 : inD 0 = true ∧ inD 1 = true := by decide
/-- OF SMALLER SETS what a constraint keeps lies in what it keeps of greater ones -/
theorem narrow_mono {p : PL} {A B : Ds} (hg : p.Good A.length) (hl : A.length = B.length) (hA : AllN A) (hB : AllN B) (h : LeOn p.all A B) (hne : anyNil p.all A = false) {ks : Ks} (hk : narrowKs p A = some ks)
    (hne2 : anyNil p.all (keepsL ks A) = false) : ∃ ks', narrowKs p B = some ks' ∧ ∀ k' ∈ ks', ∀ x, memL (domOf (keepsL ks A) k'.1) x = true → memL k'.2 x = true := by
  have hv := hg.vars
  rw [anyNil_false] at hne hne2
  unfold narrowKs at hk ⊢
  rcases hg.kind with k1 | k2 | k3 | k4
  · have hall : p.all = p.vars := by unfold PL.all allL; rw [if_pos k1]
    rw [hall] at hv h
    rw [if_pos k1] at hk ⊢
    obtain ⟨ks', h1, h2⟩ := lin_mono hA hB hl (fun q hq => zip_vars q hq) h hk
    refine ⟨ks', h1, fun k' hk' x hx => ?_⟩
    obtain ⟨k, hkm, e, hs⟩ := h2 k' hk'
    have hm := narrow_keys hg (by unfold narrowKs; rw [if_pos k1]; exact hk) hkm
    rw [e, hall] at hm
    exact hs x ((keeps_in hA (hv _ hm).2 hx).2 k hkm e)
  · have hall : p.all = [p.x, p.y, p.z] := by unfold PL.all allL; rw [if_neg (by omega), if_pos k2]
    rw [hall] at hv h hne
    rw [if_neg (by omega), if_pos k2] at hk ⊢
    injection hk with hk
    refine ⟨_, rfl, ?_⟩
    have ex := ends_mono (hA p.x.toNat) (hB p.x.toNat) (hne p.x (by simp)) (h p.x (by simp))
    have ey := ends_mono (hA p.y.toNat) (hB p.y.toNat) (hne p.y (by simp)) (h p.y (by simp))
    have ez := ends_mono (hA p.z.toNat) (hB p.z.toNat) (hne p.z (by simp)) (h p.z (by simp))
    have hkx := fun x hx => keeps_in (ks := ks) hA (v := p.x) (x := x) (hv p.x (by simp)).2 hx
    have hky := fun x hx => keeps_in (ks := ks) hA (v := p.y) (x := x) (hv p.y (by simp)).2 hx
    have hkz := fun x hx => keeps_in (ks := ks) hA (v := p.z) (x := x) (hv p.z (by simp)).2 hx
    intro k' hk' x hx
    unfold prodKs at hk'
    rcases List.mem_cons.1 hk' with rfl | hk'
    · obtain ⟨m1, m2⟩ := hkx x hx
      have m3 := m2 (p.x, factorsL (domOf A p.x) (loD (domOf A p.y)) (hiD (domOf A p.y)) (loD (domOf A p.z)) (hiD (domOf A p.z))) (by rw [← hk]; simp [prodKs]) rfl
      dsimp only at m3; rw [factors_mem (show Normal (domOf A p.x) from hA _), Bool.and_eq_true] at m3
      dsimp only
      rw [factors_mem (show Normal (domOf B p.x) from hB _), Bool.and_eq_true]
      exact ⟨h p.x (by simp) x m1, hasW_mono ey.1 ey.2.1 ez.1 ez.2.1 m3.2⟩
    · rcases List.mem_cons.1 hk' with rfl | hk'
      · obtain ⟨m1, m2⟩ := hky x hx
        have m3 := m2 (p.y, factorsL (domOf A p.y) (loD (domOf A p.x)) (hiD (domOf A p.x)) (loD (domOf A p.z)) (hiD (domOf A p.z))) (by rw [← hk]; simp [prodKs]) rfl
        dsimp only at m3; rw [factors_mem (show Normal (domOf A p.y) from hA _), Bool.and_eq_true] at m3
        dsimp only
        rw [factors_mem (show Normal (domOf B p.y) from hB _), Bool.and_eq_true]
        exact ⟨h p.y (by simp) x m1, hasW_mono ex.1 ex.2.1 ez.1 ez.2.1 m3.2⟩
      · rcases List.mem_cons.1 hk' with rfl | hk'
        · obtain ⟨m1, m2⟩ := hkz x hx
          have m3 := m2 (p.z, prodR (domOf A p.x) (domOf A p.y)) (by rw [← hk]; simp [prodKs]) rfl
          exact prodR_mono ex ey m3
        · cases hk'
  · have hall : p.all = p.vs := by unfold PL.all allL; rw [if_neg (by omega), if_neg (by omega), if_pos k3]
    rw [hall] at hv h hne
    rw [if_neg (by omega), if_neg (by omega), if_pos k3] at hk ⊢
    injection hk with hk
    refine ⟨_, rfl, fun k' hk' x hx => ?_⟩
    obtain ⟨i, hi, h1, m, hm, hmi, rfl⟩ := mem_diffTo.1 hk'
    have hvi : p.vs.getD i 0 ∈ p.vs := by rw [List.getD_eq_getElem?_getD, List.getElem?_eq_getElem hi]; exact List.getElem_mem hi
    have hvm : p.vs.getD m 0 ∈ p.vs := by rw [List.getD_eq_getElem?_getD, List.getElem?_eq_getElem hm]; exact List.getElem_mem hm
    have hal := one_alone (show Normal (domOf B (p.vs.getD i 0)) from hB _) h1
    obtain ⟨y, hy⟩ := normal_some (show Normal (domOf A (p.vs.getD i 0)) from hA _) (hne _ hvi)
    have hyB := h _ hvi y hy
    rw [hal] at hyB
    have e1 : domOf B (p.vs.getD i 0) = [(y, y)] := by unfold aloneL at hyB; simpa using hyB
    have e2 : domOf A (p.vs.getD i 0) = [(y, y)] := by
      rw [← e1]
      refine normal_unique (hA _) (hB _) (fun z => ?_)
      rw [Bool.eq_iff_iff]
      constructor
      · exact h _ hvi z
      · intro hz
        have hz' : memL (domOf B (p.vs.getD i 0)) z = true := hz
        rw [e1, one_mem, decide_eq_true_eq] at hz'
        subst hz'; exact hy
    refine (keeps_in hA (hv _ hvm).2 hx).2 (p.vs.getD m 0, complL (domOf B (p.vs.getD i 0))) ?_ rfl
    rw [← hk, mem_diffTo]
    exact ⟨i, hi, by rw [e2, ← e1]; exact h1, m, hm, hmi, by rw [e1, e2]⟩
  · have hall : p.all = p.x :: p.vars := by unfold PL.all allL; rw [if_neg (by omega), if_neg (by omega), if_neg (by omega), if_pos k4]
    have hnk : ∀ k ∈ ks, k.1 ∈ p.all := fun k hkm => narrow_keys (was := A) (ks := ks) hg (by unfold narrowKs; exact hk) hkm
    rw [hall] at hv h hne hne2 hnk
    rw [if_neg (by omega), if_neg (by omega), if_neg (by omega)] at hk ⊢
    have hx0 := (hv p.x (by simp)).2
    have hsub : ∀ q ∈ p.coef.zip p.vars, SubD (domOf A q.2) (domOf B q.2) := fun q hq => subD_on hA hB h (List.mem_cons_of_mem _ (zip_vars q hq))
    have hok : allOk A (p.coef.zip p.vars) = true := by
      unfold allOk
      rw [List.all_eq_true]
      intro q hq
      rw [okT_nil, norm_of_normal (show Normal (domOf A q.2) from hA _)]
      have := hne q.2 (List.mem_cons_of_mem _ (zip_vars q hq))
      simpa using this
    obtain ⟨s1, s2⟩ := says_mono (rel := p.rel) (c := p.c) hsub hok
    have hmayin : (p.x, mayL (saysL p.rel p.c A (p.coef.zip p.vars))) ∈ ks := by
      unfold reifKs at hk
      dsimp only at hk
      split at hk
      · obtain ⟨_, _, rfl⟩ := Option.map_eq_some_iff.1 hk; exact List.mem_cons_self ..
      · split at hk
        · obtain ⟨_, _, rfl⟩ := Option.map_eq_some_iff.1 hk; exact List.mem_cons_self ..
        · injection hk with hk; subst hk; exact List.mem_cons_self ..
    have hmay : ∀ x, memL (domOf (keepsL ks A) p.x) x = true → memL (mayL (saysL p.rel p.c B (p.coef.zip p.vars))) x = true := fun x hx =>
      may_mono s1 s2 ((keeps_in hA hx0 hx).2 _ hmayin rfl)
    obtain ⟨x0, hxx⟩ := normal_some (allN_keeps ks hA p.x.toNat) (hne2 p.x (by simp))
    have hk0 := keeps_in hA hx0 hxx
    have h01 := may_in (hk0.2 _ hmayin rfl)
    have hxA := hk0.1
    have hle := h p.x (by simp)
    have hlv : LeOn p.vars A B := fun v hv => h v (List.mem_cons_of_mem _ hv)
    have tail : ∀ (rel c : Int) (coef : List Int) (l : Ks), linKs rel c (coef.zip p.vars) p.vars A = some l → (∀ k ∈ l, k ∈ ks) → ∃ l', linKs rel c (coef.zip p.vars) p.vars B = some l' ∧ ∀ k' ∈ l', ∀ x, memL (domOf (keepsL ks A) k'.1) x = true → memL k'.2 x = true := fun rel c coef l hlk hin => by
      obtain ⟨l', h1, h2⟩ := lin_mono hA hB hl (fun q hq => zip_vars q hq) hlv hlk
      refine ⟨l', h1, fun k' hk' x hx => ?_⟩
      obtain ⟨k, hkm, e, hs⟩ := h2 k' hk'
      have hm := hnk k (hin k hkm)
      rw [e] at hm
      exact hs x ((keeps_in hA (hv _ hm).2 hx).2 k (hin k hkm) e)
    unfold reifKs at hk ⊢
    dsimp only at hk ⊢
    rw [inD01.1, inD01.2, Bool.true_and, Bool.true_and] at hk ⊢
    by_cases b1 : memL (domOf B p.x) 1 = true
    · by_cases b0 : memL (domOf B p.x) 0 = true
      · rw [b1, b0, if_neg (by decide), if_neg (by decide)]
        refine ⟨_, rfl, fun k' hk' x hx => ?_⟩
        rw [List.mem_singleton] at hk'
        subst hk'
        exact hmay x hx
      · have a0 : memL (domOf A p.x) 0 = false := by
          cases e : memL (domOf A p.x) 0 with
          | false => rfl
          | true => exact absurd (hle 0 e) b0
        have a1 : memL (domOf A p.x) 1 = true := by
          rcases h01 with rfl | rfl
          · have hxA' : memL (domOf A p.x) 0 = true := hxA
            rw [a0] at hxA'; cases hxA'
          · exact hxA
        have b0' : memL (domOf B p.x) 0 = false := by simpa using b0
        rw [a1, a0, if_pos (by decide)] at hk
        rw [b1, b0', if_pos (by decide)]
        obtain ⟨l, hlk, rfl⟩ := Option.map_eq_some_iff.1 hk
        obtain ⟨l', h1, h2⟩ := tail _ _ _ l hlk (fun k hkm => List.mem_cons_of_mem _ hkm)
        rw [h1]
        refine ⟨_, rfl, fun k' hk' x hx => ?_⟩
        rcases List.mem_cons.1 hk' with rfl | hk'
        · exact hmay x hx
        · exact h2 k' hk' x hx
    · have b1' : memL (domOf B p.x) 1 = false := by simpa using b1
      have a1 : memL (domOf A p.x) 1 = false := by
        cases e : memL (domOf A p.x) 1 with
        | false => rfl
        | true => exact absurd (hle 1 e) b1
      have a0 : memL (domOf A p.x) 0 = true := by
        rcases h01 with rfl | rfl
        · exact hxA
        · have hxA' : memL (domOf A p.x) 1 = true := hxA
          rw [a1] at hxA'; cases hxA'
      have b0 := hle 0 a0
      rw [a1, a0, if_neg (by decide), if_pos (by decide)] at hk
      rw [b1', b0, if_neg (by decide), if_pos (by decide)]
      obtain ⟨l, hlk, rfl⟩ := Option.map_eq_some_iff.1 hk
      obtain ⟨l', h1, h2⟩ := tail _ _ _ l hlk (fun k hkm => List.mem_cons_of_mem _ hkm)
      rw [h1]
      refine ⟨_, rfl, fun k' hk' x hx => ?_⟩
      rcases List.mem_cons.1 hk' with rfl | hk'
      · exact hmay x hx
      · exact h2 k' hk' x hx
theorem not_nil_of {l : List Int} {a b : Ds} (ha : AllN a) (h : LeOn l a b) (hn : anyNil l a = false) : anyNil l b = false := by
  rw [anyNil_false] at *
  intro v hv
  obtain ⟨x, hx⟩ := normal_some (ha v.toNat) (hn v hv)
  exact mem_ne_nil (h v hv x hx)
/-- OF SMALLER DOMAINS what a constraint says once is smaller, or nothing -/
theorem onceP_mono {p : PL} {a b r : Ds} (hg : p.Good a.length) (hl : a.length = b.length) (h : ∀ j x, memL ((a.map norm).getD j []) x = true → memL ((b.map norm).getD j []) x = true) (hr : onceP p a = some r) :
    ∃ s, onceP p b = some s ∧ ∀ j x, memL (r.getD j []) x = true → memL (s.getD j []) x = true := by
  obtain ⟨h1, ks, hk, rfl, h2⟩ := onceP_parts hr
  have hA := allN_norm a
  have hB := allN_norm b
  have hlA : (a.map norm).length = (b.map norm).length := by simpa using hl
  have hg' : p.Good (a.map norm).length := by simpa using hg
  have hle : LeOn p.all (a.map norm) (b.map norm) := fun v _ x hx => h v.toNat x hx
  obtain ⟨ks', hk', hin⟩ := narrow_mono hg' hlA hA hB hle h1 hk h2
  have hsub : ∀ j x, memL ((keepsL ks (a.map norm)).getD j []) x = true → memL ((keepsL ks' (b.map norm)).getD j []) x = true := fun j x hx => by
    by_cases hj : j < (a.map norm).length
    · have hj' : j < (b.map norm).length := by rw [← hlA]; exact hj
      rw [keepsL_mem x j ks' hB hj', Bool.and_eq_true, List.all_eq_true]
      have hx2 := hx
      rw [keepsL_mem x j ks hA hj, Bool.and_eq_true] at hx2
      refine ⟨h j x hx2.1, fun k' hkm => ?_⟩
      by_cases e : k'.1.toNat = j
      · subst e
        have := hin k' hkm x hx
        simp [this]
      · simp [e]
    · rw [List.getD_eq_getElem?_getD, List.getElem?_eq_none (by rw [keepsL_len]; omega)] at hx
      simp [memL] at hx
  have hN := allN_keeps ks hA
  refine ⟨_, onceP_some_of (not_nil_of hA hle h1) hk' (not_nil_of hN (fun v _ x hx => hsub v.toNat x hx) h2), hsub⟩
/-- WHAT A CONSTRAINT SAYS HANGS ON ITS OWN VARIABLES: where it says nothing new, it says nothing new of other sets that are alike there -/
theorem onceP_stable {p : PL} {a b : Ds} (hg : p.Good a.length) (hl : a.length = b.length) (ha : AllN a) (hb : AllN b) (h : ∀ v ∈ p.all, domOf a v = domOf b v) (hr : onceP p a = some a) : onceP p b = some b := by
  obtain ⟨h1, ks, hk, e, h2⟩ := onceP_parts hr
  rw [norm_getD ha] at h1 hk e
  have hle : LeOn p.all a b := fun v hv x hx => by rw [← h v hv]; exact hx
  obtain ⟨ks', hk', hin⟩ := narrow_mono hg hl ha hb hle h1 hk (by rw [← e]; exact h2)
  rw [← e] at hin
  have hbn := norm_getD hb
  have e' : keepsL ks' b = b := by
    refine ds_ext (keepsL_len _ _) (allN_keeps ks' hb) hb (fun j hj x => ?_)
    rw [keepsL_len] at hj
    rw [keepsL_mem x j ks' hb hj, Bool.eq_iff_iff, Bool.and_eq_true, List.all_eq_true]
    refine ⟨fun q => q.1, fun hx => ⟨hx, fun k' hkm => ?_⟩⟩
    by_cases ej : k'.1.toNat = j
    · subst ej
      have hm := narrow_keys (by rw [← hl]; exact hg) hk' hkm
      have := hin k' hkm x (by rw [h _ hm]; exact hx)
      simp [this]
    · simp [ej]
  have := onceP_some_of (p := p) (ds := b) (ks := ks') (by rw [hbn]; exact not_nil_of ha hle h1) (by rw [hbn]; exact hk') (by rw [hbn, e']; exact not_nil_of ha hle h1)
  rw [hbn, e'] at this
  exact this
end Go.Proofs.YtajooiainglpmaaGreat
namespace Go.Proofs.YtajooiainglpmaaGreat
open Go.RowKit

set_option maxRecDepth 100000 in
theorem clone_n (va : Value) (a : List Rg) (w : World) (ha : RgAt w va a) (hla : a.length ≤ 4096) :
    Calls Tryz.prog 32 #[va] w (RetN a w) := by
  obtain ⟨i0, hi, hz0, hz1, hz2⟩ := info_parts Tryz.infoRg
  obtain ⟨ao, cap, rfl, _⟩ := ha.shape
  have q22 : ∀ (w : World) (a : Option Addr) (n c n' c' : Nat), (binOp .eql 22 (.slice a n c) (.slice none n' c')).run Tryz.prog w = .ok (.bool a.isNone) w := fun w a n c n' c' => Lib.run_eql_slice_nil w _ _ a n c n' c' Tryz.underlying22
  have H := Lib.hid ha
  have hc := SlAt.none_cap ha
  have hs := ha.shape
  cases ao with
  | none =>
    have h0 : cap = 0 := hc rfl
    subst h0
    obtain ⟨_, _, he, h1, _⟩ := hs
    simp only [Value.slice.injEq, true_and] at he
    obtain ⟨rfl, rfl⟩ := he
    have h2 : a = [] := List.eq_nil_of_length_eq_zero (by omega)
    subst h2
    clear h1 hc ha H
    go_enter Tryz.func32, Tryz.ntmps32
    go_wp2
    go_ret
    exact ⟨none, 0, rfl, RgAt.nil, Below.refl _ _, fun b hb => by cases hb⟩
  | some ad =>
    clear hc ha hs
    have HM : Hid ((w.alloc (.cells #[] 32)).ownsRow w.heap.size 32 2 (.slice (some ⟨w.heap.size, 0, none⟩) 0 0) 0 []) := World.ownsRow_made w #[] 0 (Nat.le_refl _) (by decide) rfl
    have HB : Hid (Below w.heap.size w (w.alloc (.cells #[] 32))) := (Below.refl _ _).alloc (Nat.le_refl _) _
    go_enter Tryz.func32, Tryz.ntmps32
    go_wp2_with (at_builtin; refine wpList_append_sl rfl (.tmp 5) (.tmp 6) 22 rfl w.heap.size 32 i0 (.agg #[.int .i64 0, .int .i64 0]) 2 16 Tryz.underlying22 hi hz0 hz1 hz2 rfl (by decide) _ 0 [] rfl HM.out _ a.length _ rfl (SlAt.below H.out HB.out) (cellsR_one a) (by omega) (by simp) ?_; intro v1 w1 o1 b1 _)
    rw [Nat.zero_add, List.nil_append] at o1
    have hn : ∀ b, v1.ownBlock = some b → w.heap.size ≤ b := ownBlock_ge o1
    obtain ⟨oa, oc, rfl, _⟩ := (SlAt.of_own o1).shape
    have hb := Lib.hid (HB.out.trans b1)
    have hs := Lib.hid (RgAt.own o1)
    have hn2 := Lib.hid hn
    clear o1 b1 hn
    go_ret
    exact ⟨_, _, rfl, hs.out, hb.out, hn2.out⟩

/-- the list of integers L, in new memory -/
def RetI (L : List Int) (w : World) (e : Ending) (w' : World) : Prop := ∃ ao cap, e = .returned (.slice ao L.length cap) ∧ IsAt w' (.slice ao L.length cap) L ∧ (∃ B, w'.ownsRow B 3 1 (.slice ao L.length cap) L.length (L.map (Value.int .i64)) ∧ w.heap.size ≤ B) ∧ Below w.heap.size w w'

set_option maxRecDepth 100000 in
theorem cloneI_n (va : Value) (a : List Int) (w : World) (ha : IsAt w va a) (hla : a.length ≤ 4096) :
    Calls Tryz.prog 151 #[va] w (RetI a w) := by
  obtain ⟨i0, hi, hz0, hz1, hz2⟩ := info_parts Tryz.infoIntR
  obtain ⟨ao, cap, rfl, _⟩ := SlAt.shape ha
  have q22 : ∀ (w : World) (a : Option Addr) (n c n' c' : Nat), (binOp .eql 26 (.slice a n c) (.slice none n' c')).run Tryz.prog w = .ok (.bool a.isNone) w := fun w a n c n' c' => Lib.run_eql_slice_nil w _ _ a n c n' c' Tryz.underlying26
  have H := Lib.hid ha
  have hc := SlAt.none_cap ha
  have hs := SlAt.shape ha
  cases ao with
  | none =>
    have h0 : cap = 0 := hc rfl
    subst h0
    obtain ⟨_, _, he, h1, _⟩ := hs
    simp only [Value.slice.injEq, true_and] at he
    obtain ⟨rfl, rfl⟩ := he
    have h2 : a = [] := List.eq_nil_of_length_eq_zero (by omega)
    subst h2
    clear h1 hc ha H
    go_enter Tryz.func151, Tryz.ntmps151
    go_wp2
    go_ret
    exact ⟨none, 0, rfl, SlAt.nil, ⟨w.heap.size, ⟨rfl, .inl ⟨rfl, rfl⟩⟩, Nat.le_refl _⟩, Below.refl _ _⟩
  | some ad =>
    clear hc ha hs
    have HM : Hid ((w.alloc (.cells #[] 3)).ownsRow w.heap.size 3 1 (.slice (some ⟨w.heap.size, 0, none⟩) 0 0) 0 []) := World.ownsRow_made w #[] 0 (Nat.le_refl _) (by decide) rfl
    have HB : Hid (Below w.heap.size w (w.alloc (.cells #[] 3))) := (Below.refl _ _).alloc (Nat.le_refl _) _
    go_enter Tryz.func151, Tryz.ntmps151
    go_wp2_with (at_builtin; refine wpList_append_sl rfl (.tmp 5) (.tmp 6) 26 rfl w.heap.size 3 i0 (.int .i64 0) 1 8 Tryz.underlying26 hi hz0 hz1 hz2 rfl (by decide) _ 0 [] rfl HM.out _ a.length _ rfl (SlAt.below H.out HB.out) (one_ints a) (by omega) (by simp) ?_; intro v1 w1 o1 b1 _)
    rw [Nat.zero_add, List.nil_append] at o1
    obtain ⟨oa, oc, rfl, _⟩ := (SlAt.of_own o1).shape
    have hb := Lib.hid (HB.out.trans b1)
    have hs := Lib.hid o1
    clear o1 b1
    go_ret
    exact ⟨_, _, rfl, SlAt.of_own hs.out, ⟨_, hs.out, Nat.le_refl _⟩, hb.out⟩

/-- a quotient, divided down -/
theorem beqf' {a b : Int} (h : a ≠ b) : (a == b) = false := beq_eq_false_iff_ne.2 h
theorem down_c (a b : Int) (hb : b ≠ 0) (ha : -100000 ≤ a ∧ a ≤ 100000) (_hb2 : -100000 ≤ b ∧ b ≤ 100000) (w : World) :
    Calls Tryz.prog 168 #[.int .i64 a, .int .i64 b] w fun e w' => e = .returned (.int .i64 (downI a b)) ∧ w = w' := by
  have h1 : -100000 ≤ a.tdiv b ∧ a.tdiv b ≤ 100000 := by
    have := Int.natAbs_tdiv a b
    have h2 : (a.tdiv b).natAbs ≤ a.natAbs := by rw [this]; exact Nat.div_le_self _ _
    omega
  have hz : (b == 0) = false := beqf' hb
  unfold downI
  by_cases g1 : a.tmod b = 0
  · rw [if_neg (fun h => h.1 g1)]
    go_enter Tryz.func168, Tryz.ntmps168
    go_wp2
    go_ret
    exact ⟨rfl, rfl⟩
  · have g1' : (a.tmod b == 0) = false := beqf' g1
    have k1 : 0 ≤ a → ¬ a % b = 0 := fun h => by rw [← Int.tmod_eq_emod_of_nonneg h]; exact g1
    by_cases g2 : a < 0
    · by_cases g3 : b < 0
      · rw [if_neg (fun h => (h.2.1 g2) g3)]
        go_enter Tryz.func168, Tryz.ntmps168
        go_wp2
        go_ret
        exact ⟨rfl, rfl⟩
      · rw [if_pos ⟨g1, fun _ => g3, fun _ => g2⟩]
        go_enter Tryz.func168, Tryz.ntmps168
        go_wp2
        go_ret
        exact ⟨rfl, rfl⟩
    · have k2 := k1 (by omega)
      have k3 : (a % b == 0) = false := beqf' k2
      have k4 : (a % b != 0) = true := by simpa using k2
      by_cases g3 : b < 0
      · rw [if_pos ⟨g1, fun h => absurd h g2, fun h => absurd g3 h⟩]
        go_enter Tryz.func168, Tryz.ntmps168
        go_wp2
        go_ret
        exact ⟨rfl, rfl⟩
      · rw [if_neg (fun h => g2 (h.2.2 g3))]
        go_enter Tryz.func168, Tryz.ntmps168
        go_wp2
        go_ret
        exact ⟨rfl, rfl⟩

set_option maxRecDepth 100000 in
theorem up_c (a b : Int) (hb : b ≠ 0) (ha : -100000 ≤ a ∧ a ≤ 100000) (hb2 : -100000 ≤ b ∧ b ≤ 100000) (w : World) :
    Calls Tryz.prog 167 #[.int .i64 a, .int .i64 b] w fun e w' => e = .returned (.int .i64 (upI a b)) ∧ w = w' := by
  have CD := Lib.hid (down_c (-a) b hb (by omega) hb2 w)
  have hbd : -100001 ≤ downI (-a) b ∧ downI (-a) b ≤ 100000 := by
    have h1 : ((-a).tdiv b).natAbs ≤ (-a).natAbs := by rw [Int.natAbs_tdiv]; exact Nat.div_le_self _ _
    unfold downI; split <;> omega
  unfold upI
  generalize downI (-a) b = d at *
  go_enter Tryz.func167, Tryz.ntmps167
  go_wp2_with (go_at_call 168; (with_reducible refine CD.out.mono ?_); rintro e w' ⟨rfl, rfl⟩)
  go_ret
  exact ⟨rfl, rfl⟩

/-- append of two cells, telling which blocks stay, and where the row lies -/
theorem wpList_append2L {P : Program} {ops : Array Oper} {rest : List Oper} {o : Oper} {a : Act} {w : World} {Q : Exit → Act → World → Prop} (hgd : o.guard = none) (s x : Operand) (t : TypeId)
    (ho : o.op = .call { callee := .builtin .append, args := #[s, x], argTypes := #[t, t] })
    (base : Nat) (e : TypeId) (i : TypeInfo) (z : Value) (bytes : Nat) (ht : P.underlying t = some (.slice e)) (hi : P.info? e = some i) (hz : i.zero = some z)
    (hsize : i.size = 2) (hby : i.bytes = bytes) (hzs : z.cells.size = 2)
    (v : Value) (n : Nat) (xs : List Value) (hs : a.eval s = v) (hown : w.ownsRow base e 2 v n xs) {e' : TypeId}
    (u1 u2 : Value) {g0 : Nat} (hx : a.eval x = .slice (some ⟨g0, 0, none⟩) 1 1) (hg : w.heap.size = g0) (h1 : u1.oneCell' = true) (h2 : u2.oneCell' = true)
    (hbytes : (n + 1) * bytes ≤ 140737488355328 ∧ n + 1 ≤ 140737488355328) (hbase : base ≤ w.heap.size)
    (h : ∀ g cap w', w'.ownsRow base e 2 (.slice (some ⟨g, 0, none⟩) (n + 1) cap) (n + 1) (xs ++ [u1, u2]) → Below base w w' → KeepsBut w w' v → (v.ownBlock = some g ∨ w.heap.size ≤ g) → wpList P ops Q rest (a.put o.dst (.slice (some ⟨g, 0, none⟩) (n + 1) cap)) w') :
    wpList P ops Q (o :: rest) a (w.alloc (.cells #[u1, u2] e')) := by
  subst hg
  refine wpList_append_lies _ hgd s x t ho base e i z 2 bytes ht hi hz hsize hby hzs (by decide) v n xs hs (hown.alloc _) ⟨w.heap.size, 0, none⟩ 1 1 [u1, u2] hx rfl ?_ ?_ (by decide) ?_ hbytes.1 (by simp; omega) _ rfl ?_
  · intro j y hj
    match j, hj with
    | 0, hj => simp at hj; subst hj; simp [Addr.add]
    | 1, hj => simp at hj; subst hj; simp [Addr.add]
  · intro y hy; simp at hy; rcases hy with rfl | rfl <;> assumption
  · unfold maxLen; omega
  · intro g cap w' r1 r2 r3 _
    refine h g cap w' r1 (below_grown hbase r2 (ownBlock_ge hown)) (fun b hb hne => ?_) ?_
    · rw [r2.block b (by simp; omega) (fun he => hne he.symm)]
      exact Below.heap_alloc w _ b hb
    · rcases r3 with h3 | h3
      · exact .inl h3
      · right; rw [h3]; simp

theorem sizeL_le {D : List Rg} (h : Normal D) : 0 ≤ sizeL D ∧ sizeL D ≤ 402 := sizeL_bounds D (-200) (by decide) h
theorem factors_eq {D : List Rg} (lo hi a b : Int) : norm (goneL (fun v => hasQ v lo hi a b) D) = factorsL D lo hi a b := by
  unfold norm factorsL
  refine canon_congr fun n _ _ => ?_
  rw [goneL_mem, hasQ_eq]

set_option maxRecDepth 100000 in
set_option maxHeartbeats 3200000 in
theorem factors_c (va : Value) (D : List Rg) (lo hi a b : Int) (w : World) (hd : RgAt w va D) (hD : Normal D) (_h1 : -200 ≤ lo ∧ lo ≤ 200) (_h2 : -200 ≤ hi ∧ hi ≤ 200) (h3 : -200 ≤ a ∧ a ≤ 200) (h4 : -200 ≤ b ∧ b ≤ 200) :
    Calls Tryz.prog 164 #[va, .int .i64 lo, .int .i64 hi, .int .i64 a, .int .i64 b] w (RetR (factorsL D lo hi a b) w) := by
  obtain ⟨i0, hi0, hz0, hz1, hz2⟩ := info_parts Tryz.infoRg
  obtain ⟨ao, cap, rfl, _⟩ := hd.shape
  have HD := Lib.hid hd
  have HBD := Lib.hid hD.bounds
  have hDl := normal_len hD
  obtain ⟨p, hp⟩ : ∃ p : Int → Bool, p = fun v => hasQ v lo hi a b := ⟨_, rfl⟩
  have HG : Hid (∀ k, ((goneL (fun v => hasQ v lo hi a b) (D.take k)).length : Int) ≤ 402) := fun k => by
    have h1 := goneL_len (fun v => hasQ v lo hi a b) (D.take k) (fun r hr => (hD.bounds r (List.mem_of_mem_take hr)).2.1)
    have h2 := sizeL_le (D := D.take k) (normal_take hD k)
    omega
  have HE := Lib.hid (factors_eq (D := D) lo hi a b)
  generalize factorsL D lo hi a b = R at *
  have HS := Lib.hid (goneL_step (fun v => hasQ v lo hi a b) D)
  have CU := Lib.hid (fun (x v : Int) (W : World) (hx : -200 ≤ x ∧ x ≤ 200) (hv : -200 ≤ v ∧ v ≤ 200) (h0 : v ≠ 0) => up_c x v h0 (by omega) (by omega) W)
  have CD := Lib.hid (fun (x v : Int) (W : World) (hx : -200 ≤ x ∧ x ≤ 200) (hv : -200 ≤ v ∧ v ≤ 200) (h0 : v ≠ 0) => down_c x v h0 (by omega) (by omega) W)
  have HQ : Hid (∀ v, p v = if 0 < v then decide (max lo (upI a v) ≤ min hi (downI b v)) else if v < 0 then decide (max lo (upI b v) ≤ min hi (downI a v)) else !(decide (0 < a) || decide (b < 0)) && decide (lo ≤ hi)) := fun v => by rw [hp]; rfl
  rw [← hp] at HG HE HS
  clear hd hD hp
  go_enter Tryz.func164, Tryz.ntmps164
  go_wp2
  go_loopw [11, 19] (fun o s wr => ∃ k : Nat, k ≤ D.length ∧ s = .int .i64 k ∧ wr.ownsRow w.heap.size 32 2 o (goneL p (D.take k)).length (cellsR (goneL p (D.take k))) ∧ Below w.heap.size w wr) (fun _ s _ => D.length - (intOf s).toNat)
  case atStart => exact ⟨0, by omega, rfl, World.ownsRow_nil _ _ _ _, Below.refl _ _⟩
  case round =>
    obtain ⟨k, hk, rfl, hown, hbel⟩ := hrel
    have HB := Lib.hid hbel
    have hle := hbel.size
    clear hbel
    by_cases hlt : k < D.length
    · obtain ⟨bd, od, cd, he, _, hbd, hcs⟩ := RgAt.at HD.out (by omega)
      simp only [Value.slice.injEq, true_and] at he
      obtain ⟨rfl, rfl⟩ := he
      obtain ⟨c0, c1⟩ := hcs k hlt
      rw [← HB.out.cell (p := ⟨bd, od + k * 2, none⟩) hbd] at c0
      rw [← HB.out.cell (p := ⟨bd, od + k * 2 + 1, none⟩) hbd] at c1
      have S1 := Lib.hid (HS.out k hlt)
      have hg1 := HG.out (k + 1)
      obtain ⟨hr1, hr2, hr3⟩ := HBD.out D[k] (List.getElem_mem hlt)
      have j1 : (k : Int) < D.length := by omega
      have hRl := Lib.hid (runG_len p D[k].1)
      clear hcs
      rw [S1.out, List.length_append] at hg1
      generalize D[k] = r at *
      obtain ⟨r1, r2⟩ := r
      dsimp only at *
      generalize goneL p (D.take k) = G at *
      obtain ⟨wo, rfl⟩ : ∃ wo : World, wo = wr := ⟨_, rfl⟩
      have HX0 := Lib.hid (Box2.mk' wo (.int .i64 r1) (.int .i64 r2) 32)
      have hne0 := own_far hown (Nat.le_refl _)
      go_wp2
      go_loopw [11, 14] (fun o s wi => ∃ j : Nat, r1 + j ≤ r2 + 1 ∧ s = .int .i64 (r1 + j) ∧ wi.ownsRow w.heap.size 32 2 o (G ++ runG p r1 j).length (cellsR (G ++ runG p r1 j)) ∧ Hid (Box2 wi wo.heap.size (.int .i64 r1) (.int .i64 r2)) ∧ o.ownBlock ≠ some wo.heap.size ∧ Hid (Below w.heap.size w wi)) (fun _ s _ => (r2 + 1 - intOf s).toNat)
      case atStart => exact ⟨0, by omega, by simp, by simpa [runG] using hown.alloc _, HX0, hne0, Lib.hid (HB.out.alloc hle _)⟩
      case round =>
        clear HX0 hne0 c0 c1 hown
        obtain ⟨j, hj, rfl, hown, HX, hne, HB1⟩ := hrel
        obtain ⟨xc0, xc1, xf0, xf1⟩ := HX.out
        have hle1 := HB1.out.size
        by_cases hlt2 : r1 + j ≤ r2
        · obtain ⟨v, hv⟩ : ∃ v, v = r1 + (j : Int) := ⟨_, rfl⟩
          have hvb : -200 ≤ v ∧ v ≤ 200 := by omega
          have S2 : Hid (G ++ runG p r1 (j + 1) = G ++ runG p r1 j ++ (if p v = true then [(v, v)] else [])) := by show _ = _; rw [hv, List.append_assoc]; rfl
          have hl2 : (G ++ runG p r1 j).length ≤ 1000 := by have := hRl.out j; rw [List.length_append]; omega
          rw [← hv]
          have hm : (r2 + 1 - (v + 1)).toNat < (r2 + 1 - v).toNat := by omega
          have hv1 : r1 + ((j + 1 : Nat) : Int) = v + 1 := by omega
          have hvr : v ≤ r2 := by omega
          have HV := Lib.hid hv
          clear hv
          generalize G ++ runG p r1 j = O at *
          clear hRl
          by_cases hs : 0 < v
          · have CU1 : Hid (∀ W, Calls Tryz.prog 167 #[.int .i64 a, .int .i64 v] W fun e w' => e = .returned (.int .i64 (upI a v)) ∧ W = w') := fun W => CU.out a v W (by omega) (by omega) (by omega)
            have CD1 : Hid (∀ W, Calls Tryz.prog 168 #[.int .i64 b, .int .i64 v] W fun e w' => e = .returned (.int .i64 (downI b v)) ∧ W = w') := fun W => CD.out b v W (by omega) (by omega) (by omega)
            have hq := HQ.out v
            rw [if_pos hs] at hq
            generalize upI a v = U at *
            generalize downI b v = L at *
            by_cases hc : max lo U ≤ min hi L
            · have hq1 : p v = true := by rw [hq]; simpa using hc
              rw [if_pos hq1] at S2
              clear hq hq1
              go_wp2_with (first
                | (go_at_call 167; (with_reducible refine (CU1.out _).mono ?_); rintro e w' ⟨rfl, rfl⟩)
                | (go_at_call 168; (with_reducible refine (CD1.out _).mono ?_); rintro e w' ⟨rfl, rfl⟩)
                | (at_builtin; refine wpList_append2L rfl (.tmp 69) (.tmp 73) 22 rfl w.heap.size 32 i0 (.agg #[.int .i64 0, .int .i64 0]) 16 Tryz.underlying22 hi0 hz0 hz1 hz2 rfl _ _ _ rfl hown (.int .i64 v) (.int .i64 v) rfl rfl rfl rfl (by omega) (by omega) ?_; intro g1 cap1 w1 ow bw kw aw))
              exact ⟨⟨j + 1, by omega, by rw [hv1]; try rfl, by rw [S2.out, cellsR_append, List.length_append]; exact ow, HX.out.kept kw hne, fun he => by
                rcases aw with h | h
                · exact hne (h.trans (by simpa [Value.ownBlock] using he))
                · have h1 := HX.out.lt
                  simp [Value.ownBlock] at he; omega, HB1.out.trans (bw.mono (Nat.le_refl _))⟩, by simp [intOf]; omega⟩
            · have hq1 : ¬ p v = true := by rw [hq]; simpa using hc
              rw [if_neg hq1, List.append_nil] at S2
              clear hq hq1
              go_wp2_with (first
                | (go_at_call 167; (with_reducible refine (CU1.out _).mono ?_); rintro e w' ⟨rfl, rfl⟩)
                | (go_at_call 168; (with_reducible refine (CD1.out _).mono ?_); rintro e w' ⟨rfl, rfl⟩))
              exact ⟨⟨j + 1, by omega, by rw [hv1]; try rfl, by rw [S2.out]; exact hown, HX.out, hne, HB1.out⟩, by simp [intOf]; omega⟩
          · by_cases hs2 : v < 0
            · have CU1 : Hid (∀ W, Calls Tryz.prog 167 #[.int .i64 b, .int .i64 v] W fun e w' => e = .returned (.int .i64 (upI b v)) ∧ W = w') := fun W => CU.out b v W (by omega) (by omega) (by omega)
              have CD1 : Hid (∀ W, Calls Tryz.prog 168 #[.int .i64 a, .int .i64 v] W fun e w' => e = .returned (.int .i64 (downI a v)) ∧ W = w') := fun W => CD.out a v W (by omega) (by omega) (by omega)
              have hq := HQ.out v
              rw [if_neg hs, if_pos hs2] at hq
              generalize upI b v = U at *
              generalize downI a v = L at *
              by_cases hc : max lo U ≤ min hi L
              · have hq1 : p v = true := by rw [hq]; simpa using hc
                rw [if_pos hq1] at S2
                clear hq hq1
                go_wp2_with (first
                  | (go_at_call 167; (with_reducible refine (CU1.out _).mono ?_); rintro e w' ⟨rfl, rfl⟩)
                  | (go_at_call 168; (with_reducible refine (CD1.out _).mono ?_); rintro e w' ⟨rfl, rfl⟩)
                  | (at_builtin; refine wpList_append2L rfl (.tmp 69) (.tmp 73) 22 rfl w.heap.size 32 i0 (.agg #[.int .i64 0, .int .i64 0]) 16 Tryz.underlying22 hi0 hz0 hz1 hz2 rfl _ _ _ rfl hown (.int .i64 v) (.int .i64 v) rfl rfl rfl rfl (by omega) (by omega) ?_; intro g1 cap1 w1 ow bw kw aw))
                exact ⟨⟨j + 1, by omega, by rw [hv1]; try rfl, by rw [S2.out, cellsR_append, List.length_append]; exact ow, HX.out.kept kw hne, fun he => by
                  rcases aw with h | h
                  · exact hne (h.trans (by simpa [Value.ownBlock] using he))
                  · have h1 := HX.out.lt
                    simp [Value.ownBlock] at he; omega, HB1.out.trans (bw.mono (Nat.le_refl _))⟩, by simp [intOf]; omega⟩
              · have hq1 : ¬ p v = true := by rw [hq]; simpa using hc
                rw [if_neg hq1, List.append_nil] at S2
                clear hq hq1
                go_wp2_with (first
                  | (go_at_call 167; (with_reducible refine (CU1.out _).mono ?_); rintro e w' ⟨rfl, rfl⟩)
                  | (go_at_call 168; (with_reducible refine (CD1.out _).mono ?_); rintro e w' ⟨rfl, rfl⟩))
                exact ⟨⟨j + 1, by omega, by rw [hv1]; try rfl, by rw [S2.out]; exact hown, HX.out, hne, HB1.out⟩, by simp [intOf]; omega⟩
            · obtain rfl : v = 0 := by omega
              have hq := HQ.out 0
              simp only [Int.lt_irrefl, if_false] at hq
              by_cases hc : a ≤ 0 ∧ 0 ≤ b ∧ lo ≤ hi
              · have hq1 : p 0 = true := by rw [hq]; simp; omega
                rw [if_pos hq1] at S2
                clear hq hq1
                obtain ⟨hca, hcb, hcl⟩ := hc
                go_wp2_with ((at_builtin; refine wpList_append2L rfl (.tmp 69) (.tmp 73) 22 rfl w.heap.size 32 i0 (.agg #[.int .i64 0, .int .i64 0]) 16 Tryz.underlying22 hi0 hz0 hz1 hz2 rfl _ _ _ rfl hown (.int .i64 0) (.int .i64 0) rfl rfl rfl rfl (by omega) (by omega) ?_; intro g1 cap1 w1 ow bw kw aw))
                exact ⟨⟨j + 1, by omega, by rw [hv1]; try rfl, by rw [S2.out, cellsR_append, List.length_append]; exact ow, HX.out.kept kw hne, fun he => by
              rcases aw with h | h
              · exact hne (h.trans (by simpa [Value.ownBlock] using he))
              · have h1 := HX.out.lt
                simp [Value.ownBlock] at he; omega, HB1.out.trans (bw.mono (Nat.le_refl _))⟩, by simp [intOf]; omega⟩
              · have hq1 : ¬ p 0 = true := by rw [hq]; simp; omega
                rw [if_neg hq1, List.append_nil] at S2
                clear hq hq1
                by_cases hc1 : 0 < a
                · go_wp2
                  exact ⟨⟨j + 1, by omega, by rw [hv1]; try rfl, by rw [S2.out]; exact hown, HX.out, hne, HB1.out⟩, by simp [intOf]; omega⟩
                · by_cases hc2 : b < 0
                  · go_wp2
                    exact ⟨⟨j + 1, by omega, by rw [hv1]; try rfl, by rw [S2.out]; exact hown, HX.out, hne, HB1.out⟩, by simp [intOf]; omega⟩
                  · have hc3 : ¬ lo ≤ hi := by omega
                    go_wp2
                    exact ⟨⟨j + 1, by omega, by rw [hv1]; try rfl, by rw [S2.out]; exact hown, HX.out, hne, HB1.out⟩, by simp [intOf]; omega⟩
        · obtain ⟨jj, hjj⟩ : ∃ jj : Int, jj = r1 + j := ⟨_, rfl⟩
          have hjn : j = (r2 + 1 - r1).toNat := by omega
          rw [hjn, ← S1.out] at hown
          have hjr : r2 < r1 + (j : Int) := by omega
          go_wp2
          exact ⟨⟨k + 1, by omega, by go_num, hown, HB1.out⟩, by simp [intOf]; omega⟩
    · obtain rfl : k = D.length := by omega
      rw [List.take_length] at hown
      have hg := HG.out D.length
      rw [List.take_length] at hg
      have CN := Lib.hid (norm_c _ (goneL p D) wr (RgAt.own hown) (by omega))
      rw [HE.out] at CN
      go_wp2_with (go_at_call 31; (with_reducible refine CN.out.mono ?_); rintro e W3 ⟨a3, c3, rfl, r3, b3⟩)
      go_ret
      exact ⟨_, _, rfl, r3, HB.out.trans (b3.mono hle)⟩
end Go.Proofs.YtajooiainglpmaaGreat
