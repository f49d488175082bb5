/-
  PLAIN LAWS: of smaller sets what a constraint says once is smaller (or nothing); what it says hangs on its own variables alone; no program.
  PLAIN LAWS of constraints together: the greatest sets at which none says anything new; no program.
  (*fix.queue).Less; container/heap's up and down, walked.
  container/heap's up, walked: what waits is moved about, nothing is lost.
-/
import Derived.Test.YtaekdgikgbdnnaaGreatKonce3
import Derived.Test.YtaekdgikgbdnnaaGreatKfix1
namespace Go.Proofs.YtaekdgikgbdnnaaGreat

/-- included at some variables -/
def LeOn (l : List Int) (a b : Ds) : Prop := ∀ v ∈ l, ∀ x, memL (domOf a v) x = true → memL (domOf b v) x = true
theorem onceGo_subJ (J : Nat → Prop) (rel c : Int) (ds' ds : Ds) (all : Ps) (h : ∀ p ∈ all, SubD (domOf ds' p.2) (domOf ds p.2)) (ho : allOk ds' all = true) :
    ∀ (ps : Ps) (o' o r' : Ds), (∀ p ∈ ps, p ∈ all) → o'.length = o.length → (∀ j, J j → ∀ x, memL (o'.getD j []) x = true → memL (o.getD j []) x = true) →
      onceGo rel c ds' (loS ds' all) (hiS ds' all) ps o' = some r' → ∃ r, onceGo rel c ds (loS ds all) (hiS ds all) ps o = some r ∧ ∀ j, J j → ∀ x, memL (r'.getD j []) x = true → memL (r.getD j []) x = true
  | [], o', o, r', _, _, hs, hr => by simp [onceGo] at hr; subst hr; exact ⟨o, rfl, hs⟩
  | p :: ps, o', o, r', hin, hl, hs, hr => by
    unfold onceGo at hr ⊢
    split at hr
    · cases hr
    · rename_i hne
      have hsub := narrow_sub rel c ds' ds all h ho p (hin p (by simp))
      obtain ⟨x, hx⟩ := normal_some (narrow_normal _ _ _ _ _ _) hne
      rw [if_neg (mem_ne_nil (hsub x hx))]
      refine onceGo_subJ J rel c ds' ds all h ho ps _ _ r' (fun q hq => hin q (by simp [hq])) (by simpa using hl) (fun j hj y hy => ?_) hr
      rw [getD_set] at hy ⊢
      by_cases hc : p.2.toNat = j ∧ j < o'.length
      · rw [if_pos hc] at hy; rw [if_pos ⟨hc.1, by omega⟩]; exact hsub y hy
      · rw [if_neg hc] at hy; rw [if_neg (by rw [← hl]; exact hc)]; exact hs j hj y hy
theorem once_subJ (J : Nat → Prop) (rel c : Int) (ds' ds : Ds) (ps : Ps) (hl : ds'.length = ds.length) (h' : ∀ p ∈ ps, SubD (domOf ds' p.2) (domOf ds p.2)) (h : ∀ j, J j → SubD (ds'.getD j []) (ds.getD j [])) (r' : Ds) (hr : onceL rel c ds' ps = some r') :
    ∃ r, onceL rel c ds ps = some r ∧ ∀ j, J j → ∀ x, memL (r'.getD j []) x = true → memL (r.getD j []) x = true := by
  unfold onceL at *
  split at hr
  · rename_i ho
    rw [if_pos (allOk_sub ds' ds ps h' ho)]
    split at hr
    · cases hr
    · rename_i hn
      rw [if_neg (by
        rintro ⟨rfl, h2⟩
        rw [says_nil] at h2
        exact hn ⟨rfl, (says_nil _ _ _).2 h2⟩)]
      refine onceGo_subJ J rel c ds' ds ps h' ho ps _ _ r' (fun _ h => h) (by simpa using hl) (fun j hj x hx => ?_) hr
      rw [getD_map_norm] at *
      exact h j hj x hx
  · cases hr
theorem subD_on {l : List Int} {A B : Ds} (hA : AllN A) (hB : AllN B) (h : LeOn l A B) {v : Int} (hv : v ∈ l) : SubD (domOf A v) (domOf B v) := fun x hx => by
  have e1 : norm (domOf A v) = domOf A v := norm_of_normal (hA _)
  have e2 : norm (domOf B v) = domOf B v := norm_of_normal (hB _)
  rw [e1] at hx; rw [e2]
  exact h v hv x hx
theorem lin_mono {rel c : Int} {ps : Ps} {vars : List Int} {A B : Ds} (hA : AllN A) (hB : AllN B) (hl : A.length = B.length) (hps : ∀ p ∈ ps, p.2 ∈ vars) (h : LeOn vars A B) {ks : Ks} (hk : linKs rel c ps vars A = some ks) :
    ∃ ks', linKs rel c ps vars B = some ks' ∧ ∀ k' ∈ ks', ∃ k ∈ ks, k.1 = k'.1 ∧ ∀ x, memL k.2 x = true → memL k'.2 x = true := by
  unfold linKs at hk ⊢
  obtain ⟨o, ho, rfl⟩ := Option.map_eq_some_iff.1 hk
  obtain ⟨r, hr, hs⟩ := once_subJ (fun j => ∃ v ∈ vars, v.toNat = j) rel c A B ps hl (fun p hp => subD_on hA hB h (hps p hp)) (fun j ⟨v, hv, e⟩ => by subst e; exact subD_on hA hB h hv) o ho
  rw [hr]
  refine ⟨_, rfl, fun k' hk' => ?_⟩
  obtain ⟨v, hv, rfl⟩ := List.mem_map.1 hk'
  exact ⟨(v, domOf o v), List.mem_map.2 ⟨v, hv, rfl⟩, rfl, fun x hx => hs v.toNat ⟨v, hv, rfl⟩ x hx⟩
/-- what is kept at a variable lies in what it had, and in each set that was met there -/
theorem keeps_in {ks : Ks} {A : Ds} (hA : AllN A) {v x : Int} (hv : v.toNat < A.length) (hx : memL (domOf (keepsL ks A) v) x = true) : memL (domOf A v) x = true ∧ ∀ k ∈ ks, k.1 = v → memL k.2 x = true := by
  have hx' : memL ((keepsL ks A).getD v.toNat []) x = true := hx
  rw [keepsL_mem x _ ks hA hv, Bool.and_eq_true, List.all_eq_true] at hx'
  refine ⟨hx'.1, fun k hk e => ?_⟩
  have := hx'.2 k hk
  rw [e] at this
  simpa using this
theorem ends_mono {d e : List Rg} (hd : Normal d) (he : Normal e) (hne : d ≠ []) (h : ∀ x, memL d x = true → memL e x = true) : loD e ≤ loD d ∧ hiD d ≤ hiD e ∧ loD d ≤ hiD d := by
  have hn := norm_of_normal hd
  have hok : okT d = true := by rw [okT_nil, hn]; simp [hne]
  have h1 : memL d (loD d) = true := by have := (ends_in d hok).1; unfold loD; rw [hn] at *; exact this
  have h2 : memL d (hiD d) = true := by have := (ends_in d hok).2; unfold hiD; rw [hn] at *; exact this
  exact ⟨(lo_hi he (h _ h1)).1, (lo_hi he (h _ h2)).2, (lo_hi hd h1).2⟩
theorem hasW_mono {v lo hi a b lo' hi' a' b' : Int} (h1 : lo' ≤ lo) (h2 : hi ≤ hi') (h3 : a' ≤ a) (h4 : b ≤ b') (h : hasW v lo hi a b = true) : hasW v lo' hi' a' b' = true := by
  rw [hasW_iff] at *
  obtain ⟨w, g1, g2, g3, g4⟩ := h
  exact ⟨w, by omega, by omega, by omega, by omega⟩
theorem prodR_mono {X Y X' Y' : List Rg} (hx : loD X' ≤ loD X ∧ hiD X ≤ hiD X' ∧ loD X ≤ hiD X) (hy : loD Y' ≤ loD Y ∧ hiD Y ≤ hiD Y' ∧ loD Y ≤ hiD Y) {v : Int} (h : memL (prodR X Y) v = true) : memL (prodR X' Y') v = true := by
  have c1 := prod_mono (a := loD X') (b := hiD X') (e := loD Y') (f := hiD Y') (x := loD X) (y := loD Y) ⟨by omega, by omega⟩ ⟨by omega, by omega⟩
  have c2 := prod_mono (a := loD X') (b := hiD X') (e := loD Y') (f := hiD Y') (x := loD X) (y := hiD Y) ⟨by omega, by omega⟩ ⟨by omega, by omega⟩
  have c3 := prod_mono (a := loD X') (b := hiD X') (e := loD Y') (f := hiD Y') (x := hiD X) (y := loD Y) ⟨by omega, by omega⟩ ⟨by omega, by omega⟩
  have c4 := prod_mono (a := loD X') (b := hiD X') (e := loD Y') (f := hiD Y') (x := hiD X) (y := hiD Y) ⟨by omega, by omega⟩ ⟨by omega, by omega⟩
  unfold prodR at *
  generalize min4 (loD X' * loD Y') (loD X' * hiD Y') (hiD X' * loD Y') (hiD X' * hiD Y') = m' at *
  generalize max4 (loD X' * loD Y') (loD X' * hiD Y') (hiD X' * loD Y') (hiD X' * hiD Y') = M' at *
  generalize loD X * loD Y = p1 at *
  generalize loD X * hiD Y = p2 at *
  generalize hiD X * loD Y = p3 at *
  generalize hiD X * hiD Y = p4 at *
  simp only [memL, List.any_cons, List.any_nil, Bool.or_false, Bool.and_eq_true, decide_eq_true_eq] at h ⊢
  unfold min4 max4 at h
  omega
theorem yes_mono {rel c lo hi lo' hi' : Int} (h1 : lo ≤ lo') (h2 : hi' ≤ hi) (h3 : lo' ≤ hi') (h : yesL rel c lo hi = true) : yesL rel c lo' hi' = true := by
  unfold yesL at *
  split
  · rename_i h4; rw [if_pos h4] at h; simp at *; omega
  · rename_i h4
    rw [if_neg h4] at h
    split
    · rename_i h5; rw [if_pos h5] at h; simp at *; omega
    · rename_i h5; rw [if_neg h5] at h; simp at *; omega
theorem no_mono {rel c lo hi lo' hi' : Int} (h1 : lo ≤ lo') (h2 : hi' ≤ hi) (h3 : lo' ≤ hi') (h : noL rel c lo hi = true) : noL rel c lo' hi' = true := by
  unfold noL at *
  split
  · rename_i h4; rw [if_pos h4] at h; simp at *; omega
  · rename_i h4
    rw [if_neg h4] at h
    split
    · rename_i h5; rw [if_pos h5] at h; simp at *; omega
    · rename_i h5; rw [if_neg h5] at h; simp at *; omega
theorem yes_no {rel c lo hi : Int} (h3 : lo ≤ hi) (h : noL rel c lo hi = true) : yesL rel c lo hi = false := by
  unfold noL at h
  unfold yesL
  split
  · rename_i h4; rw [if_pos h4] at h; simp at *; omega
  · rename_i h4
    rw [if_neg h4] at h
    split
    · rename_i h5; rw [if_pos h5] at h; simp at *; omega
    · rename_i h5; rw [if_neg h5] at h; simp at *; omega
theorem says_mono {rel c : Int} {A B : Ds} {ps : Ps} (h : ∀ p ∈ ps, SubD (domOf A p.2) (domOf B p.2)) (ho : allOk A ps = true) :
    (saysL rel c B ps = 1 → saysL rel c A ps = 1) ∧ (saysL rel c B ps = -1 → saysL rel c A ps = -1) := by
  have hB := allOk_sub A B ps h ho
  obtain ⟨a, b⟩ := sums_sub A B ps h ho
  have c1 := (sums_le_but A ps ho).1
  unfold saysL
  rw [if_pos ho, if_pos hB]
  by_cases y : yesL rel c (loS B ps) (hiS B ps) = true
  · have y2 := yes_mono a b c1 y
    rw [if_pos y, if_pos y2]; simp
  · rw [if_neg y]
    by_cases n : noL rel c (loS B ps) (hiS B ps) = true
    · have n2 := no_mono a b c1 n
      rw [if_pos n, if_neg (by rw [yes_no c1 n2]; decide), if_pos n2]; simp
    · rw [if_neg n]; simp
theorem may_mono {s t x : Int} (h1 : t = 1 → s = 1) (h2 : t = -1 → s = -1) (h : memL (mayL s) x = true) : memL (mayL t) x = true := by
  unfold mayL at *
  by_cases t1 : t = 1
  · rw [if_pos t1]; rw [if_pos (h1 t1)] at h; exact h
  · rw [if_neg t1]
    by_cases t2 : t = -1
    · have e := h2 t2
      rw [if_pos t2]; rw [if_neg (by omega), if_pos e] at h; exact h
    · rw [if_neg t2]
      split at h
      · simp [memL] at *; omega
      · split at h
        · simp [memL] at *; omega
        · exact h
theorem may_in {s x : Int} (h : memL (mayL s) x = true) : x = 0 ∨ x = 1 := by
  unfold mayL at h
  split at h
  · simp [memL] at h; omega
  · split at h
    · simp [memL] at h; omega
    · simp [memL] at h; omega
theorem inD01 : inD 0 = true ∧ inD 1 = true := by decide
/-- OF SMALLER SETS what a constraint keeps lies in what it keeps of greater ones -/
theorem narrow_mono {p : PL} {A B : Ds} (hg : p.Good A.length) (hl : A.length = B.length) (hA : AllN A) (hB : AllN B) (h : LeOn p.all A B) (hne : anyNil p.all A = false) {ks : Ks} (hk : narrowKs p A = some ks)
    (hne2 : anyNil p.all (keepsL ks A) = false) : ∃ ks', narrowKs p B = some ks' ∧ ∀ k' ∈ ks', ∀ x, memL (domOf (keepsL ks A) k'.1) x = true → memL k'.2 x = true := by
  have hv := hg.vars
  rw [anyNil_false] at hne hne2
  unfold narrowKs at hk ⊢
  rcases hg.kind with k1 | k2 | k3 | k4
  · have hall : p.all = p.vars := by unfold PL.all allL; rw [if_pos k1]
    rw [hall] at hv h
    rw [if_pos k1] at hk ⊢
    obtain ⟨ks', h1, h2⟩ := lin_mono hA hB hl (fun q hq => zip_vars q hq) h hk
    refine ⟨ks', h1, fun k' hk' x hx => ?_⟩
    obtain ⟨k, hkm, e, hs⟩ := h2 k' hk'
    have hm := narrow_keys hg (by unfold narrowKs; rw [if_pos k1]; exact hk) hkm
    rw [e, hall] at hm
    exact hs x ((keeps_in hA (hv _ hm).2 hx).2 k hkm e)
  · have hall : p.all = [p.x, p.y, p.z] := by unfold PL.all allL; rw [if_neg (by omega), if_pos k2]
    rw [hall] at hv h hne
    rw [if_neg (by omega), if_pos k2] at hk ⊢
    injection hk with hk
    refine ⟨_, rfl, ?_⟩
    have ex := ends_mono (hA p.x.toNat) (hB p.x.toNat) (hne p.x (by simp)) (h p.x (by simp))
    have ey := ends_mono (hA p.y.toNat) (hB p.y.toNat) (hne p.y (by simp)) (h p.y (by simp))
    have ez := ends_mono (hA p.z.toNat) (hB p.z.toNat) (hne p.z (by simp)) (h p.z (by simp))
    have hkx := fun x hx => keeps_in (ks := ks) hA (v := p.x) (x := x) (hv p.x (by simp)).2 hx
    have hky := fun x hx => keeps_in (ks := ks) hA (v := p.y) (x := x) (hv p.y (by simp)).2 hx
    have hkz := fun x hx => keeps_in (ks := ks) hA (v := p.z) (x := x) (hv p.z (by simp)).2 hx
    intro k' hk' x hx
    unfold prodKs at hk'
    rcases List.mem_cons.1 hk' with rfl | hk'
    · obtain ⟨m1, m2⟩ := hkx x hx
      have m3 := m2 (p.x, factorsL (domOf A p.x) (loD (domOf A p.y)) (hiD (domOf A p.y)) (loD (domOf A p.z)) (hiD (domOf A p.z))) (by rw [← hk]; simp [prodKs]) rfl
      dsimp only at m3; rw [factors_mem (show Normal (domOf A p.x) from hA _), Bool.and_eq_true] at m3
      dsimp only
      rw [factors_mem (show Normal (domOf B p.x) from hB _), Bool.and_eq_true]
      exact ⟨h p.x (by simp) x m1, hasW_mono ey.1 ey.2.1 ez.1 ez.2.1 m3.2⟩
    · rcases List.mem_cons.1 hk' with rfl | hk'
      · obtain ⟨m1, m2⟩ := hky x hx
        have m3 := m2 (p.y, factorsL (domOf A p.y) (loD (domOf A p.x)) (hiD (domOf A p.x)) (loD (domOf A p.z)) (hiD (domOf A p.z))) (by rw [← hk]; simp [prodKs]) rfl
        dsimp only at m3; rw [factors_mem (show Normal (domOf A p.y) from hA _), Bool.and_eq_true] at m3
        dsimp only
        rw [factors_mem (show Normal (domOf B p.y) from hB _), Bool.and_eq_true]
        exact ⟨h p.y (by simp) x m1, hasW_mono ex.1 ex.2.1 ez.1 ez.2.1 m3.2⟩
      · rcases List.mem_cons.1 hk' with rfl | hk'
        · obtain ⟨m1, m2⟩ := hkz x hx
          have m3 := m2 (p.z, prodR (domOf A p.x) (domOf A p.y)) (by rw [← hk]; simp [prodKs]) rfl
          exact prodR_mono ex ey m3
        · cases hk'
  · have hall : p.all = p.vs := by unfold PL.all allL; rw [if_neg (by omega), if_neg (by omega), if_pos k3]
    rw [hall] at hv h hne
    rw [if_neg (by omega), if_neg (by omega), if_pos k3] at hk ⊢
    injection hk with hk
    refine ⟨_, rfl, fun k' hk' x hx => ?_⟩
    obtain ⟨i, hi, h1, m, hm, hmi, rfl⟩ := mem_diffTo.1 hk'
    have hvi : p.vs.getD i 0 ∈ p.vs := by rw [List.getD_eq_getElem?_getD, List.getElem?_eq_getElem hi]; exact List.getElem_mem hi
    have hvm : p.vs.getD m 0 ∈ p.vs := by rw [List.getD_eq_getElem?_getD, List.getElem?_eq_getElem hm]; exact List.getElem_mem hm
    have hal := one_alone (show Normal (domOf B (p.vs.getD i 0)) from hB _) h1
    obtain ⟨y, hy⟩ := normal_some (show Normal (domOf A (p.vs.getD i 0)) from hA _) (hne _ hvi)
    have hyB := h _ hvi y hy
    rw [hal] at hyB
    have e1 : domOf B (p.vs.getD i 0) = [(y, y)] := by unfold aloneL at hyB; simpa using hyB
    have e2 : domOf A (p.vs.getD i 0) = [(y, y)] := by
      rw [← e1]
      refine normal_unique (hA _) (hB _) (fun z => ?_)
      rw [Bool.eq_iff_iff]
      constructor
      · exact h _ hvi z
      · intro hz
        have hz' : memL (domOf B (p.vs.getD i 0)) z = true := hz
        rw [e1, one_mem, decide_eq_true_eq] at hz'
        subst hz'; exact hy
    refine (keeps_in hA (hv _ hvm).2 hx).2 (p.vs.getD m 0, complL (domOf B (p.vs.getD i 0))) ?_ rfl
    rw [← hk, mem_diffTo]
    exact ⟨i, hi, by rw [e2, ← e1]; exact h1, m, hm, hmi, by rw [e1, e2]⟩
  · have hall : p.all = p.x :: p.vars := by unfold PL.all allL; rw [if_neg (by omega), if_neg (by omega), if_neg (by omega), if_pos k4]
    have hnk : ∀ k ∈ ks, k.1 ∈ p.all := fun k hkm => narrow_keys (was := A) (ks := ks) hg (by unfold narrowKs; exact hk) hkm
    rw [hall] at hv h hne hne2 hnk
    rw [if_neg (by omega), if_neg (by omega), if_neg (by omega)] at hk ⊢
    have hx0 := (hv p.x (by simp)).2
    have hsub : ∀ q ∈ p.coef.zip p.vars, SubD (domOf A q.2) (domOf B q.2) := fun q hq => subD_on hA hB h (List.mem_cons_of_mem _ (zip_vars q hq))
    have hok : allOk A (p.coef.zip p.vars) = true := by
      unfold allOk
      rw [List.all_eq_true]
      intro q hq
      rw [okT_nil, norm_of_normal (show Normal (domOf A q.2) from hA _)]
      have := hne q.2 (List.mem_cons_of_mem _ (zip_vars q hq))
      simpa using this
    obtain ⟨s1, s2⟩ := says_mono (rel := p.rel) (c := p.c) hsub hok
    have hmayin : (p.x, mayL (saysL p.rel p.c A (p.coef.zip p.vars))) ∈ ks := by
      unfold reifKs at hk
      dsimp only at hk
      split at hk
      · obtain ⟨_, _, rfl⟩ := Option.map_eq_some_iff.1 hk; exact List.mem_cons_self ..
      · split at hk
        · obtain ⟨_, _, rfl⟩ := Option.map_eq_some_iff.1 hk; exact List.mem_cons_self ..
        · injection hk with hk; subst hk; exact List.mem_cons_self ..
    have hmay : ∀ x, memL (domOf (keepsL ks A) p.x) x = true → memL (mayL (saysL p.rel p.c B (p.coef.zip p.vars))) x = true := fun x hx =>
      may_mono s1 s2 ((keeps_in hA hx0 hx).2 _ hmayin rfl)
    obtain ⟨x0, hxx⟩ := normal_some (allN_keeps ks hA p.x.toNat) (hne2 p.x (by simp))
    have hk0 := keeps_in hA hx0 hxx
    have h01 := may_in (hk0.2 _ hmayin rfl)
    have hxA := hk0.1
    have hle := h p.x (by simp)
    have hlv : LeOn p.vars A B := fun v hv => h v (List.mem_cons_of_mem _ hv)
    have tail : ∀ (rel c : Int) (coef : List Int) (l : Ks), linKs rel c (coef.zip p.vars) p.vars A = some l → (∀ k ∈ l, k ∈ ks) → ∃ l', linKs rel c (coef.zip p.vars) p.vars B = some l' ∧ ∀ k' ∈ l', ∀ x, memL (domOf (keepsL ks A) k'.1) x = true → memL k'.2 x = true := fun rel c coef l hlk hin => by
      obtain ⟨l', h1, h2⟩ := lin_mono hA hB hl (fun q hq => zip_vars q hq) hlv hlk
      refine ⟨l', h1, fun k' hk' x hx => ?_⟩
      obtain ⟨k, hkm, e, hs⟩ := h2 k' hk'
      have hm := hnk k (hin k hkm)
      rw [e] at hm
      exact hs x ((keeps_in hA (hv _ hm).2 hx).2 k (hin k hkm) e)
    unfold reifKs at hk ⊢
    dsimp only at hk ⊢
    rw [inD01.1, inD01.2, Bool.true_and, Bool.true_and] at hk ⊢
    by_cases b1 : memL (domOf B p.x) 1 = true
    · by_cases b0 : memL (domOf B p.x) 0 = true
      · rw [b1, b0, if_neg (by decide), if_neg (by decide)]
        refine ⟨_, rfl, fun k' hk' x hx => ?_⟩
        rw [List.mem_singleton] at hk'
        subst hk'
        exact hmay x hx
      · have a0 : memL (domOf A p.x) 0 = false := by
          cases e : memL (domOf A p.x) 0 with
          | false => rfl
          | true => exact absurd (hle 0 e) b0
        have a1 : memL (domOf A p.x) 1 = true := by
          rcases h01 with rfl | rfl
          · have hxA' : memL (domOf A p.x) 0 = true := hxA
            rw [a0] at hxA'; cases hxA'
          · exact hxA
        have b0' : memL (domOf B p.x) 0 = false := by simpa using b0
        rw [a1, a0, if_pos (by decide)] at hk
        rw [b1, b0', if_pos (by decide)]
        obtain ⟨l, hlk, rfl⟩ := Option.map_eq_some_iff.1 hk
        obtain ⟨l', h1, h2⟩ := tail _ _ _ l hlk (fun k hkm => List.mem_cons_of_mem _ hkm)
        rw [h1]
        refine ⟨_, rfl, fun k' hk' x hx => ?_⟩
        rcases List.mem_cons.1 hk' with rfl | hk'
        · exact hmay x hx
        · exact h2 k' hk' x hx
    · have b1' : memL (domOf B p.x) 1 = false := by simpa using b1
      have a1 : memL (domOf A p.x) 1 = false := by
        cases e : memL (domOf A p.x) 1 with
        | false => rfl
        | true => exact absurd (hle 1 e) b1
      have a0 : memL (domOf A p.x) 0 = true := by
        rcases h01 with rfl | rfl
        · exact hxA
        · have hxA' : memL (domOf A p.x) 1 = true := hxA
          rw [a1] at hxA'; cases hxA'
      have b0 := hle 0 a0
      rw [a1, a0, if_neg (by decide), if_pos (by decide)] at hk
      rw [b1', b0, if_neg (by decide), if_pos (by decide)]
      obtain ⟨l, hlk, rfl⟩ := Option.map_eq_some_iff.1 hk
      obtain ⟨l', h1, h2⟩ := tail _ _ _ l hlk (fun k hkm => List.mem_cons_of_mem _ hkm)
      rw [h1]
      refine ⟨_, rfl, fun k' hk' x hx => ?_⟩
      rcases List.mem_cons.1 hk' with rfl | hk'
      · exact hmay x hx
      · exact h2 k' hk' x hx
theorem not_nil_of {l : List Int} {a b : Ds} (ha : AllN a) (h : LeOn l a b) (hn : anyNil l a = false) : anyNil l b = false := by
  rw [anyNil_false] at *
  intro v hv
  obtain ⟨x, hx⟩ := normal_some (ha v.toNat) (hn v hv)
  exact mem_ne_nil (h v hv x hx)
/-- OF SMALLER DOMAINS what a constraint says once is smaller, or nothing -/
theorem onceP_mono {p : PL} {a b r : Ds} (hg : p.Good a.length) (hl : a.length = b.length) (h : ∀ j x, memL ((a.map norm).getD j []) x = true → memL ((b.map norm).getD j []) x = true) (hr : onceP p a = some r) :
    ∃ s, onceP p b = some s ∧ ∀ j x, memL (r.getD j []) x = true → memL (s.getD j []) x = true := by
  obtain ⟨h1, ks, hk, rfl, h2⟩ := onceP_parts hr
  have hA := allN_norm a
  have hB := allN_norm b
  have hlA : (a.map norm).length = (b.map norm).length := by simpa using hl
  have hg' : p.Good (a.map norm).length := by simpa using hg
  have hle : LeOn p.all (a.map norm) (b.map norm) := fun v _ x hx => h v.toNat x hx
  obtain ⟨ks', hk', hin⟩ := narrow_mono hg' hlA hA hB hle h1 hk h2
  have hsub : ∀ j x, memL ((keepsL ks (a.map norm)).getD j []) x = true → memL ((keepsL ks' (b.map norm)).getD j []) x = true := fun j x hx => by
    by_cases hj : j < (a.map norm).length
    · have hj' : j < (b.map norm).length := by rw [← hlA]; exact hj
      rw [keepsL_mem x j ks' hB hj', Bool.and_eq_true, List.all_eq_true]
      have hx2 := hx
      rw [keepsL_mem x j ks hA hj, Bool.and_eq_true] at hx2
      refine ⟨h j x hx2.1, fun k' hkm => ?_⟩
      by_cases e : k'.1.toNat = j
      · subst e
        have := hin k' hkm x hx
        simp [this]
      · simp [e]
    · rw [List.getD_eq_getElem?_getD, List.getElem?_eq_none (by rw [keepsL_len]; omega)] at hx
      simp [memL] at hx
  have hN := allN_keeps ks hA
  refine ⟨_, onceP_some_of (not_nil_of hA hle h1) hk' (not_nil_of hN (fun v _ x hx => hsub v.toNat x hx) h2), hsub⟩
/-- WHAT A CONSTRAINT SAYS HANGS ON ITS OWN VARIABLES: where it says nothing new, it says nothing new of other sets that are alike there -/
theorem onceP_stable {p : PL} {a b : Ds} (hg : p.Good a.length) (hl : a.length = b.length) (ha : AllN a) (hb : AllN b) (h : ∀ v ∈ p.all, domOf a v = domOf b v) (hr : onceP p a = some a) : onceP p b = some b := by
  obtain ⟨h1, ks, hk, e, h2⟩ := onceP_parts hr
  rw [norm_getD ha] at h1 hk e
  have hle : LeOn p.all a b := fun v hv x hx => by rw [← h v hv]; exact hx
  obtain ⟨ks', hk', hin⟩ := narrow_mono hg hl ha hb hle h1 hk (by rw [← e]; exact h2)
  rw [← e] at hin
  have hbn := norm_getD hb
  have e' : keepsL ks' b = b := by
    refine ds_ext (keepsL_len _ _) (allN_keeps ks' hb) hb (fun j hj x => ?_)
    rw [keepsL_len] at hj
    rw [keepsL_mem x j ks' hb hj, Bool.eq_iff_iff, Bool.and_eq_true, List.all_eq_true]
    refine ⟨fun q => q.1, fun hx => ⟨hx, fun k' hkm => ?_⟩⟩
    by_cases ej : k'.1.toNat = j
    · subst ej
      have hm := narrow_keys (by rw [← hl]; exact hg) hk' hkm
      have := hin k' hkm x (by rw [h _ hm]; exact hx)
      simp [this]
    · simp [ej]
  have := onceP_some_of (p := p) (ds := b) (ks := ks') (by rw [hbn]; exact not_nil_of ha hle h1) (by rw [hbn]; exact hk') (by rw [hbn, e']; exact not_nil_of ha hle h1)
  rw [hbn, e'] at this
  exact this
end Go.Proofs.YtaekdgikgbdnnaaGreat
namespace Go.Proofs.YtaekdgikgbdnnaaGreat

/-- the places that wait are constraints' -/
def InPs (L : List Int) (ps : List PL) : Prop := ∀ i ∈ L, 0 ≤ i ∧ i.toNat < ps.length
def LeD (a b : Ds) : Prop := ∀ j x, memL (a.getD j []) x = true → memL (b.getD j []) x = true
theorem LeD.refl (a : Ds) : LeD a a := fun _ _ h => h
theorem LeD.trans {a b c : Ds} (h : LeD a b) (g : LeD b c) : LeD a c := fun j x hx => g j x (h j x hx)
theorem LeD.eq {a b : Ds} (hl : a.length = b.length) (ha : AllN a) (hb : AllN b) (h : LeD a b) (g : LeD b a) : a = b :=
  ds_ext hl ha hb fun j _ x => by rw [Bool.eq_iff_iff]; exact ⟨h j x, g j x⟩
/-- no set is empty -/
def AllE (a : Ds) : Prop := ∀ j, j < a.length → a.getD j [] ≠ []
/-- sets at which no constraint says anything new -/
structure Common (ps : List PL) (D e : Ds) : Prop where
  len : e.length = D.length
  nor : AllN e
  non : AllE e
  sub : LeD e (D.map norm)
  fix : ∀ p ∈ ps, onceP p e = some e
def FixOf (ps : List PL) (D : Ds) : Option Ds → Prop
  | some r => Common ps D r ∧ ∀ e, Common ps D e → LeD e r
  | none => ∀ e, ¬ Common ps D e
theorem fixOf_unique {ps : List PL} {D : Ds} : ∀ {R R' : Option Ds}, FixOf ps D R → FixOf ps D R' → R = R'
  | none, none, _, _ => rfl
  | none, some r, h, h' => absurd h'.1 (h r)
  | some r, none, h, h' => absurd h.1 (h' r)
  | some _, some _, h, h' => by rw [LeD.eq (h.1.len.trans h'.1.len.symm) h.1.nor h'.1.nor (h'.2 _ h.1) (h.2 _ h'.1)]
/-- on the way there -/
structure OnWay (ps : List PL) (D now : Ds) : Prop where
  len : now.length = D.length
  nor : AllN now
  non : AllE now
  sub : LeD now (D.map norm)
  big : ∀ e, Common ps D e → LeD e now
theorem onWay_start {ps : List PL} {D : Ds} (h : AllE (D.map norm)) : OnWay ps D (D.map norm) := ⟨by simp, allN_norm D, h, LeD.refl _, fun _ he => he.sub⟩
theorem onWay_none {ps : List PL} {D : Ds} {j : Nat} (hj : j < D.length) (h : norm (D.getD j []) = []) : FixOf ps D none := fun e he => by
  have hj' : j < e.length := by rw [he.len]; exact hj
  obtain ⟨x, hx⟩ := normal_some (he.nor j) (he.non j hj')
  have := he.sub j x hx
  rw [getD_map_norm, h] at this
  simp [memL] at this
/-- what a constraint says once of e lies in what it says of greater sets -/
theorem once_big {p : PL} {e now : Ds} (hg : p.Good e.length) (hl : e.length = now.length) (he : AllN e) (hn : AllN now) (h : LeD e now) (hf : onceP p e = some e) : ∃ d, onceP p now = some d ∧ LeD e d :=
  onceP_mono hg hl (by rw [norm_getD he, norm_getD hn]; exact h) hf
theorem onWay_step {ps : List PL} {D now d : Ds} {p : PL} (hp : p ∈ ps) (hg : p.Good D.length) (h : OnWay ps D now) (ho : onceP p now = some d) : OnWay ps D d := by
  have hl := onceP_len ho
  have hn := norm_getD h.nor
  obtain ⟨h1, ks, _, _, h2⟩ := onceP_parts ho
  refine ⟨hl.trans h.len, onceP_normal ho, fun j hj => ?_, fun j x hx => ?_, fun e he => ?_⟩
  · by_cases hv : ∃ v ∈ p.all, v.toNat = j
    · obtain ⟨v, hv1, rfl⟩ := hv
      exact (anyNil_false.1 h2) v hv1
    · rw [onceP_other (by rw [h.len]; exact hg) ho (fun v hv1 e => hv ⟨v, hv1, e⟩), hn]
      exact h.non j (by omega)
  · have := onceP_sub ho j x hx
    rw [hn] at this
    exact h.sub j x this
  · obtain ⟨d', h3, h4⟩ := once_big (by rw [he.len]; exact hg) (he.len.trans h.len.symm) he.nor h.nor (h.big e he) (he.fix p hp)
    rw [ho] at h3
    cases h3
    exact h4
theorem onWay_gone {ps : List PL} {D now : Ds} {p : PL} (hp : p ∈ ps) (hg : p.Good D.length) (h : OnWay ps D now) (ho : onceP p now = none) : FixOf ps D none := fun e he => by
  obtain ⟨d', h3, _⟩ := once_big (by rw [he.len]; exact hg) (he.len.trans h.len.symm) he.nor h.nor (h.big e he) (he.fix p hp)
  rw [ho] at h3
  cases h3
theorem onWay_end {ps : List PL} {D now : Ds} (h : OnWay ps D now) (hs : ∀ p ∈ ps, onceP p now = some now) : FixOf ps D (some now) := ⟨⟨h.len, h.nor, h.non, h.sub, hs⟩, h.big⟩
theorem fixOf_again {ps : List PL} {D a : Ds} (h : FixOf ps D (some a)) : FixOf ps a (some a) := by
  obtain ⟨h1, _⟩ := h
  have hn := norm_getD h1.nor
  exact ⟨⟨rfl, h1.nor, h1.non, by rw [hn]; exact LeD.refl _, h1.fix⟩, fun e he => by have := he.sub; rwa [hn] at this⟩
/-- values of the domains for which all hold are kept -/
theorem common_single {ps : List PL} {D : Ds} {x : List Int} (hg : ∀ p ∈ ps, p.Lin D.length) (hb : ∀ v ∈ x, -200 ≤ v ∧ v ≤ 200) (hx : Has (D.map norm) x) (hh : ∀ p ∈ ps, holdsP p x = true) : Common ps D (single x) := by
  have hl : x.length = D.length := by have := hx.1; simpa using this
  refine ⟨by rw [single_len]; exact hl, single_allN hb, fun j hj => ?_, fun j z hz => ?_, fun p hp => ?_⟩
  · rw [single_len] at hj
    rw [single_at hj]; simp
  · by_cases hj : j < x.length
    · rw [single_at hj, one_mem, decide_eq_true_eq] at hz
      subst hz
      exact hx.2 j (by simp; omega)
    · rw [List.getD_eq_getElem?_getD, List.getElem?_eq_none (by rw [single_len]; omega)] at hz
      simp [memL] at hz
  · rw [onceP_single (by rw [hl]; exact hg p hp) hb, if_pos (hh p hp)]
theorem fixOf_keeps {ps : List PL} {D : Ds} {x : List Int} (hg : ∀ p ∈ ps, p.Lin D.length) (hb : ∀ v ∈ x, -200 ≤ v ∧ v ≤ 200) (hx : Has (D.map norm) x) (hh : ∀ p ∈ ps, holdsP p x = true) : ∀ {R : Option Ds}, FixOf ps D R → ∃ r, R = some r ∧ r.length = D.length ∧ AllN r ∧ ∀ j, j < D.length → memL (r.getD j []) (x.getD j 0) = true
  | none, h => absurd (common_single hg hb hx hh) (h _)
  | some r, h => by
    have hl : x.length = D.length := by have := hx.1; simpa using this
    refine ⟨r, rfl, h.1.len, h.1.nor, fun j hj => h.2 _ (common_single hg hb hx hh) j _ ?_⟩
    rw [single_at (by omega), one_mem]; simp
/-- where each domain has one integer -/
theorem fixOf_single {ps : List PL} {y : List Int} (hg : ∀ p ∈ ps, p.Lin y.length) (hb : ∀ v ∈ y, -200 ≤ v ∧ v ≤ 200) {R : Option Ds} (h : FixOf ps (single y) R) : ((∀ p ∈ ps, holdsP p y = true) → R = some (single y)) ∧ ((¬ ∀ p ∈ ps, holdsP p y = true) → R = none) := by
  have hsn := single_norm hb
  have huni : ∀ e, Common ps (single y) e → e = single y := fun e he => by
    have hl : e.length = y.length := by rw [he.len, single_len]
    refine LeD.eq (by rw [hl, single_len]) he.nor (single_allN hb) (by have := he.sub; rwa [hsn] at this) (fun j x hx => ?_)
    by_cases hj : j < y.length
    · rw [single_at hj, one_mem, decide_eq_true_eq] at hx
      subst hx
      obtain ⟨z, hz⟩ := normal_some (he.nor j) (he.non j (by omega))
      have h2 := he.sub j z hz
      rw [hsn, single_at hj, one_mem, decide_eq_true_eq] at h2
      rw [← h2]; exact hz
    · rw [List.getD_eq_getElem?_getD, List.getElem?_eq_none (by rw [single_len]; omega)] at hx
      simp [memL] at hx
  constructor
  · intro hh
    have hc := common_single (D := single y) (by rw [single_len]; exact hg) hb (by rw [hsn]; exact single_has) hh
    cases R with
    | none => exact absurd hc (h _)
    | some r => rw [huni r h.1]
  · intro hn
    cases R with
    | none => rfl
    | some r =>
      exfalso
      apply hn
      intro p hp
      have := h.1.fix p hp
      rw [huni r h.1, onceP_single (hg p hp) hb] at this
      by_cases hh : holdsP p y = true
      · exact hh
      · rw [if_neg hh] at this; cases this

/-! ### how many integers there are yet -/
theorem cnt_le {S T : Int → Bool} (h : ∀ x, S x = true → T x = true) : ∀ (k : Nat) (n : Int), cnt S k n ≤ cnt T k n
  | 0, _ => Int.le_refl _
  | k + 1, n => by
    have := cnt_le h k (n + 1)
    unfold cnt
    by_cases hs : S n = true
    · rw [if_pos hs, if_pos (h n hs)]; omega
    · rw [if_neg hs]; split <;> omega
theorem cnt_lt {S T : Int → Bool} (h : ∀ x, S x = true → T x = true) {x : Int} (hT : T x = true) (hS : S x = false) : ∀ (k : Nat) (n : Int), n ≤ x → x < n + k → cnt S k n < cnt T k n
  | 0, _, h1, h2 => by omega
  | k + 1, n, h1, h2 => by
    unfold cnt
    by_cases e : n = x
    · subst e
      have := cnt_le h k (n + 1)
      rw [hT, hS]; simp; omega
    · have := cnt_lt h hT hS k (n + 1) (by omega) (by omega)
      by_cases hs : S n = true
      · rw [if_pos hs, if_pos (h n hs)]; omega
      · rw [if_neg hs]; split <;> omega
def sizeN (d : List Rg) : Nat := (cnt (memL d) 401 (-200)).toNat
def tot (a : Ds) : Nat := (a.map sizeN).sum
theorem sizeN_le401 (d : List Rg) : sizeN d ≤ 401 := by have := cnt_nonneg (memL d) 401 (-200); unfold sizeN; omega
theorem tot_le : ∀ a : Ds, tot a ≤ 401 * a.length
  | [] => by simp [tot]
  | d :: a => by
    have h1 := tot_le a
    have h2 := sizeN_le401 d
    unfold tot at *
    simp only [List.map_cons, List.sum_cons, List.length_cons]
    omega
theorem sizeN_le {a b : List Rg} (h : ∀ x, memL a x = true → memL b x = true) : sizeN a ≤ sizeN b := by
  have := cnt_le h 401 (-200)
  unfold sizeN; omega
theorem sizeN_lt {a b : List Rg} (ha : Normal a) (hb : Normal b) (h : ∀ x, memL a x = true → memL b x = true) (hne : a ≠ b) : sizeN a < sizeN b := by
  have hx : ∃ x, memL b x = true ∧ memL a x = false := by
    apply Classical.byContradiction
    intro hn
    apply hne
    refine normal_unique ha hb (fun x => ?_)
    cases hbx : memL b x with
    | false =>
      cases hax : memL a x with
      | false => rfl
      | true => rw [h x hax] at hbx; cases hbx
    | true =>
      cases hax : memL a x with
      | true => rfl
      | false => exact absurd ⟨x, hbx, hax⟩ hn
  obtain ⟨x, h1, h2⟩ := hx
  have hbd := memL_bounds hb h1
  have h3 := cnt_lt h h1 h2 401 (-200) hbd.1 (by omega)
  have h4 := cnt_nonneg (memL a) 401 (-200)
  unfold sizeN; omega
theorem tot_lt : ∀ {a b : Ds}, a.length = b.length → AllN a → AllN b → LeD a b → tot a ≤ tot b ∧ (a ≠ b → tot a < tot b)
  | [], [], _, _, _, _ => ⟨Nat.le_refl _, fun h => absurd rfl h⟩
  | [], _ :: _, h, _, _, _ => by simp at h
  | _ :: _, [], h, _, _, _ => by simp at h
  | d :: a, e :: b, hl, ha, hb, h => by
    have hl' : a.length = b.length := by simpa using hl
    have ha' : AllN a := fun j => ha (j + 1)
    have hb' : AllN b := fun j => hb (j + 1)
    have h' : LeD a b := fun j x hx => h (j + 1) x hx
    have hd : ∀ x, memL d x = true → memL e x = true := fun x hx => h 0 x hx
    obtain ⟨i1, i2⟩ := tot_lt hl' ha' hb' h'
    have h0 := sizeN_le hd
    unfold tot at *
    simp only [List.map_cons, List.sum_cons]
    refine ⟨by omega, fun hne => ?_⟩
    by_cases hde : d = e
    · subst hde
      have : a ≠ b := fun e => hne (by rw [e])
      have := i2 this
      omega
    · have := sizeN_lt (show Normal d from ha 0) (show Normal e from hb 0) hd hde
      omega
/-- a step that takes nothing, or takes at least one -/
theorem once_tot {p : PL} {now d : Ds} (hn : AllN now) (ho : onceP p now = some d) : tot d ≤ tot now ∧ (d ≠ now → tot d < tot now) :=
  tot_lt (onceP_len ho) (onceP_normal ho) hn (fun j x hx => by have := onceP_sub ho j x hx; rwa [norm_getD hn] at this)
/-- behind a step: what was stable and names nothing that was changed is stable yet -/
theorem stable_on {p q : PL} {now d : Ds} (hn : AllN now) (hp : p.Good now.length) (hq : q.Good now.length) (ho : onceP p now = some d) (hs : onceP q now = some now) (hc : ∀ v ∈ q.all, v ∈ p.all → domOf d v = domOf now v) : onceP q d = some d := by
  refine onceP_stable hq (onceP_len ho).symm hn (onceP_normal ho) (fun v hv => ?_) hs
  by_cases hvp : v ∈ p.all
  · exact (hc v hv hvp).symm
  · by_cases h : ∃ u ∈ p.all, u.toNat = v.toNat
    · obtain ⟨u, hu, e⟩ := h
      have h1 := hp.vars u hu
      have h2 := hq.vars v hv
      have : u = v := by omega
      subst this
      exact absurd hu hvp
    · have := onceP_other hp ho (j := v.toNat) (fun u hu e => h ⟨u, hu, e⟩)
      rw [norm_getD hn] at this
      unfold domOf
      exact this.symm
/-- where no variable of its own was changed, nothing was -/
theorem same_of {p : PL} {now d : Ds} (hn : AllN now) (hp : p.Good now.length) (ho : onceP p now = some d) (hc : ∀ v ∈ p.all, domOf d v = domOf now v) : d = now := by
  refine ds_ext (onceP_len ho) (onceP_normal ho) hn (fun j _ x => ?_)
  by_cases h : ∃ u ∈ p.all, u.toNat = j
  · obtain ⟨u, hu, rfl⟩ := h
    have := hc u hu
    unfold domOf at this
    rw [this]
  · have := onceP_other hp ho (j := j) (fun u hu e => h ⟨u, hu, e⟩)
    rw [norm_getD hn] at this
    rw [this]
end Go.Proofs.YtaekdgikgbdnnaaGreat
namespace Go.Proofs.YtaekdgikgbdnnaaGreat
open Go.RowKit

/-- a waiting place's weight -/
def pw (ps : List PL) (x : Int) : Int := match ps[x.toNat]? with
  | some p => wgt p.kind p.vars.length p.vs.length
  | none => 0
def qLess (ps : List PL) (L : List Int) (i k : Nat) : Bool := decide (pw ps (L.getD i 0) < pw ps (L.getD k 0))
theorem pw_at {ps : List PL} {x : Int} {a : Nat} (h : x = a) (ha : a < ps.length) : pw ps x = wgt ps[a].kind ps[a].vars.length ps[a].vs.length := by
  subst h
  unfold pw
  rw [Int.toNat_natCast, List.getElem?_eq_getElem ha]

set_option maxRecDepth 100000 in
set_option maxHeartbeats 1600000 in
theorem qless_c (qb mb B : Nat) (pl vp : Value) (L : List Int) (ps : List PL) (i k : Nat) (w : World) (h : QAt w qb mb B pl vp L) (hp : PsAt w vp ps) (hps : ∀ p ∈ ps, p.vs.length ≤ 4096) (_hpl : ps.length ≤ 4096) (hin : InPs L ps) (hi : i < L.length) (hk : k < L.length) (hl : L.length ≤ 4097) :
    Calls Tryz.prog 149 #[.pointer (some ⟨qb, 0, none⟩), .int .i64 i, .int .i64 k] w fun e w' => e = .returned (.bool (qLess ps L i k)) ∧ Below w.heap.size w w' := by
  have c0 := h.c0
  have c1 := h.c1
  obtain ⟨g, cap, rfl, hgb, hcells⟩ := owns_pos h.own (by omega)
  have xi := hcells i (by omega)
  have xk := hcells k (by omega)
  rw [List.getElem?_map, List.getElem?_eq_getElem hi] at xi
  rw [List.getElem?_map, List.getElem?_eq_getElem hk] at xk
  simp only [Option.map_some] at xi xk
  have hii := hin _ (List.getElem_mem hi)
  have hkk := hin _ (List.getElem_mem hk)
  obtain ⟨a, ha⟩ := Int.eq_ofNat_of_zero_le hii.1
  obtain ⟨c, hc⟩ := Int.eq_ofNat_of_zero_le hkk.1
  have hal : a < ps.length := by have := hii.2; omega
  have hcl : c < ps.length := by have := hkk.2; omega
  have HR : Hid (qLess ps L i k = decide (wgt ps[a].kind ps[a].vars.length ps[a].vs.length < wgt ps[c].kind ps[c].vars.length ps[c].vs.length)) := by
    show _ = _
    unfold qLess
    rw [List.getD_eq_getElem?_getD, List.getD_eq_getElem?_getD, List.getElem?_eq_getElem hi, List.getElem?_eq_getElem hk, Option.getD_some, Option.getD_some, pw_at ha hal, pw_at hc hcl]
  rw [ha] at xi
  rw [hc] at xk
  obtain ⟨ap, cp, rfl, _⟩ := hp.shape
  obtain ⟨bp, op, va, vb, vv, rfl, hbp, ca, ia, ib, iv⟩ := hp.get a hal
  obtain ⟨bp2, op2, va2, vb2, vv2, he, _, cc, ia2, ib2, iv2⟩ := hp.get c hcl
  simp only [Option.some.injEq, Addr.mk.injEq, and_true] at he
  obtain ⟨rfl, rfl⟩ := he
  have hv1 := hps _ (List.getElem_mem hal)
  have hv2 := hps _ (List.getElem_mem hcl)
  obtain ⟨n0, q0, rfl, s0⟩ := IsAt.shape ia
  obtain ⟨n1, q1, rfl, s1⟩ := IsAt.shape ib
  obtain ⟨n2, q2, rfl, s2⟩ := IsAt.shape iv
  obtain ⟨n3, q3, rfl, s3⟩ := IsAt.shape ia2
  obtain ⟨n4, q4, rfl, s4⟩ := IsAt.shape ib2
  obtain ⟨n5, q5, rfl, s5⟩ := IsAt.shape iv2
  clear s0 s1 s2 s3 s4 s5 ia ib iv ia2 ib2 iv2 hp hps hcells h hii hkk ha hc hin
  have j1 : (i : Int) < L.length := by omega
  have j2 : (k : Int) < L.length := by omega
  have j3 : (a : Int) < ps.length := by omega
  have j4 : (c : Int) < ps.length := by omega
  generalize qLess ps L i k = R at *
  generalize ps[a] = pa at *
  generalize ps[c] = pc at *
  clear hal hcl
  obtain ⟨k1, r1, u1, x1, y1, z1, cf1, vr1, vs1⟩ := pa
  obtain ⟨k2, r2, u2, x2, y2, z2, cf2, vr2, vs2⟩ := pc
  dsimp only at *
  have CW1 : Hid (∀ W, Calls Tryz.prog 153 #[.agg #[.int .i64 k1, .slice n0 cf1.length q0, .slice n1 vr1.length q1, .int .i64 r1, .int .i64 u1, .int .i64 x1, .int .i64 y1, .int .i64 z1, .slice n2 vs1.length q2]] W fun e w' => e = .returned (.int .i64 (wgt k1 vr1.length vs1.length)) ∧ Below W.heap.size W w') := fun W => weight_c _ _ _ _ _ _ _ _ _ _ _ _ _ _ _ W hv1
  have CW2 : Hid (∀ W, Calls Tryz.prog 153 #[.agg #[.int .i64 k2, .slice n3 cf2.length q3, .slice n4 vr2.length q4, .int .i64 r2, .int .i64 u2, .int .i64 x2, .int .i64 y2, .int .i64 z2, .slice n5 vs2.length q5]] W fun e w' => e = .returned (.int .i64 (wgt k2 vr2.length vs2.length)) ∧ Below W.heap.size W w') := fun W => weight_c _ _ _ _ _ _ _ _ _ _ _ _ _ _ _ W hv2
  have y0 := qb_cell c0
  have y1' := qb_cell c1
  have y2' := qb_cell xi
  have y3 := qb_cell xk
  obtain ⟨d0, d1, d2, d3, d4, d5, d6, d7, d8⟩ := ca
  obtain ⟨e0, e1, e2, e3, e4, e5, e6, e7, e8⟩ := cc
  have f0 := qb_cell d0; have f1 := qb_cell d1; have f2 := qb_cell d2; have f3 := qb_cell d3; have f4 := qb_cell d4; have f5 := qb_cell d5; have f6 := qb_cell d6; have f7 := qb_cell d7; have f8 := qb_cell d8
  have g0 := qb_cell e0; have g1 := qb_cell e1; have g2 := qb_cell e2; have g3 := qb_cell e3; have g4 := qb_cell e4; have g5 := qb_cell e5; have g6 := qb_cell e6; have g7 := qb_cell e7; have g8 := qb_cell e8
  clear c0 c1 xi xk d0 d1 d2 d3 d4 d5 d6 d7 d8 e0 e1 e2 e3 e4 e5 e6 e7 e8
  generalize wgt k1 vr1.length vs1.length = w1 at *
  generalize wgt k2 vr2.length vs2.length = w2 at *
  go_enter Tryz.func149, Tryz.ntmps149
  go_wp2
  refine wp_region_below (by kernel_rfl) (by kernel_rfl) ?_
  repeat (go_big_quiet_step ((go_at_call 153; first | with_reducible exact qb_call _ (CW1.out _) | with_reducible exact qb_call _ (CW2.out _))))
  refine wpQuiet_nil ?_
  intro w1' hw1'
  clear y0 y1' y2' y3 f0 f1 f2 f3 f4 f5 f6 f7 f8 g0 g1 g2 g3 g4 g5 g6 g7 g8
  go_wp2
  go_ret
  exact ⟨by rw [HR.out]; rfl, hw1'.below⟩
end Go.Proofs.YtaekdgikgbdnnaaGreat
namespace Go.Proofs.YtaekdgikgbdnnaaGreat
open Go.RowKit

theorem swapL_perm (L : List Int) (i k : Nat) (hi : i < L.length) (hk : k < L.length) : (swapL L i k).Perm L := by
  rw [List.perm_iff_count]
  intro a
  unfold swapL
  rw [List.getD_eq_getElem?_getD, List.getD_eq_getElem?_getD, List.getElem?_eq_getElem hi, List.getElem?_eq_getElem hk, Option.getD_some, Option.getD_some]
  have e1 : k < (L.set i L[k]).length := by simpa using hk
  have p1 : 0 < L.count L[i] := List.count_pos_iff.mpr (List.getElem_mem hi)
  have p2 : 0 < L.count L[k] := List.count_pos_iff.mpr (List.getElem_mem hk)
  rw [List.count_set e1, List.count_set hi, List.getElem_set]
  by_cases e : i = k
  · subst e
    simp
    by_cases h : L[i] = a
    · subst h; simp
    · simp [h]
  · simp only [e, if_false]
    by_cases h1 : L[i] = a <;> by_cases h2 : L[k] = a <;> simp [h1, h2] <;> (try subst h1) <;> (try subst h2) <;> (try omega)
    all_goals (try (simp_all <;> omega))
theorem InPs.perm {L L' : List Int} {ps : List PL} (h : InPs L ps) (p : L'.Perm L) : InPs L' ps := fun i hi => h i (p.mem_iff.mp hi)

/-- what holds in each world that the queue's own methods come to -/
def Kept (qb : Nat) (w : World) (pl : Value) (P : World → Prop) : Prop := ∀ w' pl', QSt qb w pl w' pl' → P w'
theorem Kept.here {qb : Nat} {w : World} {pl : Value} {P : World → Prop} (h : Kept qb w pl P) : P w := h w pl (QSt.refl _ _ _)
theorem Kept.on {qb : Nat} {w w' : World} {pl pl' : Value} {P : World → Prop} (h : Kept qb w pl P) (g : QSt qb w pl w' pl') : Kept qb w' pl' P := fun _ _ q => h _ _ (g.trans q)

theorem me_less (p : Option Addr) (n : Nat) (w : World) : (method (n + 1) 99 (.pointer p) "Less").run Tryz.prog w = .ok (149, .pointer p) w := by kernel_rfl
theorem me_push (qb : Nat) (n : Nat) (w : World) : (method (n + 1) 99 (.pointer (some ⟨qb, 0, none⟩)) "Push").run Tryz.prog w = .ok (151, .pointer (some ⟨qb, 0, none⟩)) w := by kernel_rfl
theorem me_pop (qb : Nat) (n : Nat) (w : World) : (method (n + 1) 99 (.pointer (some ⟨qb, 0, none⟩)) "Pop").run Tryz.prog w = .ok (150, .pointer (some ⟨qb, 0, none⟩)) w := by kernel_rfl
theorem me_len (qb : Nat) (n : Nat) (w : World) (v : Value) (h : w.cell? ⟨qb, 0, none⟩ = some v) : (method (n + 1) 99 (.pointer (some ⟨qb, 0, none⟩)) "Len").run Tryz.prog w = .ok (64, v) w := by
  have e : (method (n + 1) 99 (.pointer (some ⟨qb, 0, none⟩)) "Len").run Tryz.prog w = (load ⟨qb, 0, none⟩ >>= fun v => pure (64, v)).run Tryz.prog w := by kernel_rfl
  rw [e]
  simp [go_sem, h]
theorem me_swap (qb : Nat) (n : Nat) (w : World) (v : Value) (h : w.cell? ⟨qb, 0, none⟩ = some v) : (method (n + 1) 99 (.pointer (some ⟨qb, 0, none⟩)) "Swap").run Tryz.prog w = .ok (152, v) w := by
  have e : (method (n + 1) 99 (.pointer (some ⟨qb, 0, none⟩)) "Swap").run Tryz.prog w = (load ⟨qb, 0, none⟩ >>= fun v => pure (152, v)).run Tryz.prog w := by kernel_rfl
  rw [e]
  simp [go_sem, h]

theorem QAt.swapped {w w' : World} {qb mb B : Nat} {pl vp : Value} {L : List Int} {i k : Nat} (h : QAt w qb mb B pl vp L) (hl : 0 < L.length) (ho : w'.ownsRow B 3 1 pl L.length ((swapL L i k).map (Value.int .i64))) (hs : ∀ q, pl.ownBlock ≠ some q → QSt q w pl w' pl) : QAt w' qb mb B pl vp (swapL L i k) ∧ QSt qb w pl w' pl := by
  obtain ⟨g, cap, rfl, hgb, hcells⟩ := owns_pos h.own (by omega)
  have hg : ∀ q, q < B → (Value.slice (some ⟨g, 0, none⟩) L.length cap).ownBlock ≠ some q := fun q hq e => by
    simp [Value.ownBlock] at e
    omega
  have x0 := hcells 0 (by omega)
  have hgs := World.block_lt_of_cell? w ⟨g, 0, none⟩ (x0.trans (by rw [List.getElem?_eq_getElem (by simpa using hl)]))
  have hgs : g < w.heap.size := hgs
  have s1 := hs (w.heap.size) (fun e => by simp [Value.ownBlock] at e; omega)
  have e := s1.blk qb h.lt (by have := h.lt; omega) (hg qb h.lq)
  refine ⟨⟨(World.cell?_of_block (a := ⟨qb, 0, none⟩) e).trans h.c0, (World.cell?_of_block (a := ⟨qb, 1, none⟩) e).trans h.c1, (World.cell?_of_block (a := ⟨qb, 2, none⟩) e).trans h.c2, (World.frozen?_of_block (a := ⟨qb, 0, none⟩) e).trans h.f0, ?_, h.lq, h.lm⟩, hs qb (hg qb h.lq)⟩
  rw [swapL_len]
  exact ho

set_option maxRecDepth 100000 in
set_option maxHeartbeats 1600000 in
theorem qup_c (qb mb B : Nat) (pl vp : Value) (L : List Int) (ps : List PL) (j : Nat) (w : World) (h : QAt w qb mb B pl vp L) (hp : Kept qb w pl (fun W => PsAt W vp ps)) (hps : ∀ p ∈ ps, p.vs.length ≤ 4096) (hpl : ps.length ≤ 4096) (hin : InPs L ps) (hj : j < L.length) (hl : L.length ≤ 4097) :
    Calls Tryz.prog 102 #[.iface 99 (.pointer (some ⟨qb, 0, none⟩)), .int .i64 j] w
      fun e w' => (∃ u, e = .returned u) ∧ ∃ L', L'.Perm L ∧ QAt w' qb mb B pl vp L' ∧ QSt qb w pl w' pl := by
  have H := Lib.hid h
  have HP := Lib.hid hp
  have HI := Lib.hid hin
  have HS := Lib.hid hps
  have ml := fun n W => me_less (some ⟨qb, 0, none⟩) n W
  clear h hp hin hps
  go_enter Tryz.func102, Tryz.ntmps102
  go_wp2
  go_loopw [1] (fun s wr => ∃ (j : Nat) (L' : List Int), s = .int .i64 j ∧ j < L.length ∧ Hid (L'.Perm L ∧ QAt wr qb mb B pl vp L' ∧ QSt qb w pl wr pl)) (fun s _ => (intOf s).toNat)
  case atStart => exact ⟨j, L, rfl, hj, List.Perm.refl _, H.out, QSt.refl _ _ _⟩
  case round =>
    obtain ⟨j, L1, rfl, hj, HR⟩ := hrel
    have hj64 : (j : Int) < 4097 := by omega
    by_cases j0 : j = 0
    · subst j0
      go_wp2
      go_end0
      exact ⟨⟨_, rfl⟩, L1, HR.out⟩
    obtain ⟨m, hm⟩ : ∃ m, m = (j - 1) / 2 := ⟨_, rfl⟩
    have e1 : ((j : Int) - 1).tdiv 2 = m := by rw [Int.tdiv_eq_ediv_of_nonneg (by omega)]; omega
    have e2 : ((m : Int) == j) = false := by rw [beq_eq_false_iff_ne]; omega
    have hmj : m < j := by omega
    clear hm
    have hl1 : Hid (L1.length = L.length) := HR.out.1.length_eq
    have CL := Lib.hid (qless_c qb mb B pl vp L1 ps j m wr HR.out.2.1 (HP.out.on HR.out.2.2).here HS.out hpl (HI.out.perm HR.out.1) (by rw [hl1.out]; exact hj) (by rw [hl1.out]; omega) (by rw [hl1.out]; exact hl))
    cases hb : qLess ps L1 j m
    · rw [hb] at CL
      go_wp2_with (go_at_call 149; (with_reducible refine CL.out.mono ?_); rintro e W1 ⟨rfl, bb⟩; have B1 := Lib.hid bb; clear bb)
      go_end0
      exact ⟨⟨_, rfl⟩, L1, HR.out.1, HR.out.2.1.below B1.out, HR.out.2.2.trans (QSt.of_below B1.out)⟩
    · rw [hb] at CL
      go_wp2_with (first | (go_at_call 149; (with_reducible refine CL.out.mono ?_); rintro e W1 ⟨rfl, bb⟩; have B1 := Lib.hid bb; clear bb; have Q1 := Lib.hid (HR.out.2.1.below B1.out); have ms := fun n => me_swap qb n W1 pl Q1.out.c0; have CS := Lib.hid (qswap_c B pl L1 m j W1 Q1.out.own (by rw [hl1.out]; omega) (by rw [hl1.out]; exact hj) (by rw [hl1.out]; exact hl))) | (go_at_call 152; (with_reducible refine CS.out.mono ?_); rintro e W2 ⟨⟨u, rfl⟩, bo, bs⟩; have Q2 := Lib.hid (Q1.out.swapped (by rw [hl1.out]; omega) bo bs); clear bo bs))
      exact ⟨⟨m, swapL L1 m j, rfl, by omega, (swapL_perm L1 m j (by rw [hl1.out]; omega) (by rw [hl1.out]; exact hj)).trans HR.out.1, Q2.out.1, (HR.out.2.2.trans (QSt.of_below B1.out)).trans Q2.out.2⟩, by simp [intOf]; omega⟩
end Go.Proofs.YtaekdgikgbdnnaaGreat
