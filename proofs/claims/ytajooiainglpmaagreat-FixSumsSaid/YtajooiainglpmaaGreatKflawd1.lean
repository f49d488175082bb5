/-
  FixComes, walked.
  PLAIN LAWS: what a sum that is known, and a chain, come to.
-/
import Derived.Test.YtajooiainglpmaaGreatKflaw1
import Derived.Test.YtajooiainglpmaaGreatKoncea7
import Derived.Test.YtajooiainglpmaaGreatKonce10
namespace Go.Proofs.YtajooiainglpmaaGreat
open Go.RowKit

theorem refFix_r {ds : Ds} {ps : List PL} {vds vps : Value} {w : World} (hd : DsAt w vds ds) (hp : PsAt w vps ps) (hin : FixIn ds ps) {R : Option Ds} (hR : FixOf ps ds R) : Calls Tryz.prog 23 #[vds, vps] w (RetO R w) :=
  (refFix_c ds ps vds vps w hd hp hin).mono fun _ _ ⟨_, h1, h2⟩ => by rw [fixOf_unique hR h1]; exact h2
set_option maxRecDepth 100000 in
set_option maxHeartbeats 3200000 in
theorem fixComes_any (vds vps : Value) (ds : Ds) (ps : List PL) (w : World) (hd : DsAt w vds ds) (hp : PsAt w vps ps) :
    Calls Tryz.prog 6 #[vds, vps] w fun e w' => e = .returned (.bool true) ∧ Below w.heap.size w w' := by
  have CR := Lib.hid (right17_c vds vps ds ps w hd hp)
  have HD := Lib.hid hd
  have HP := Lib.hid hp
  obtain ⟨a0, c0, rfl, _⟩ := hd.shape
  obtain ⟨a1, c1, rfl, _⟩ := hp.shape
  clear hd hp
  cases hr : right17 ds ps with
  | false =>
    rw [hr] at CR
    have CK := Lib.hid fixCheck_p0
    go_enter Tryz.func6, Tryz.ntmps6
    go_wp2_with (first
      | (go_at_call 25; (with_reducible refine CR.out.mono ?_); rintro e W1 ⟨rfl, bb⟩; have B1 := Lib.hid bb; clear bb)
      | (go_at_call 26; (with_reducible refine (CK.out _ _).mono ?_); rintro e W2 ⟨rfl, bb⟩; have B2 := Lib.hid (B1.out.trans (bb.mono B1.out.size)); clear bb))
    go_ret
    exact ⟨rfl, B2.out⟩
  | true =>
    rw [hr] at CR
    have hin := right17_in hr
    obtain ⟨R, hR⟩ := fixOf_exists (ps := ps) (D := ds) (fun p hp => (hin.fine p hp).good)
    have CF : Hid (∀ W, Below w.heap.size w W → Calls Tryz.prog 22 #[.slice a0 ds.length c0, .slice a1 ps.length c1] W (RetO R W)) := fun W h => fix_r (HD.out.below h) (HP.out.below h) hin hR
    have CG : Hid (∀ W, Below w.heap.size w W → Calls Tryz.prog 23 #[.slice a0 ds.length c0, .slice a1 ps.length c1] W (RetO R W)) := fun W h => refFix_r (HD.out.below h) (HP.out.below h) hin hR
    have HIN := Lib.hid hin
    clear hr hin
    cases R with
    | none =>
      have CF1 : Hid (∀ W, Below w.heap.size w W → Calls Tryz.prog 22 #[.slice a0 ds.length c0, .slice a1 ps.length c1] W fun e W' => e = .returned (.tuple #[.slice none 0 0, .bool false]) ∧ Below W.heap.size W W') := fun W h => (CF.out W h).mono fun e W' ⟨hb, hh⟩ => by
        rcases hh with ⟨_, _, _, h1, _⟩ | ⟨_, h1⟩
        · cases h1
        · exact ⟨h1, hb⟩
      have CG1 : Hid (∀ W, Below w.heap.size w W → Calls Tryz.prog 23 #[.slice a0 ds.length c0, .slice a1 ps.length c1] W fun e W' => e = .returned (.tuple #[.slice none 0 0, .bool false]) ∧ Below W.heap.size W W') := fun W h => (CG.out W h).mono fun e W' ⟨hb, hh⟩ => by
        rcases hh with ⟨_, _, _, h1, _⟩ | ⟨_, h1⟩
        · cases h1
        · exact ⟨h1, hb⟩
      have CS : Hid (∀ W, Calls Tryz.prog 24 #[.slice none 0 0, .slice none 0 0] W fun e W' => e = .returned (.bool true) ∧ Below W.heap.size W W') := fun W => (same17_c _ _ [] [] W DsAt.nil DsAt.nil (by simp) (fun d hd => by simp at hd)).mono fun e W' ⟨h1, h2⟩ => ⟨by rw [h1]; rfl, h2⟩
      clear CF CG
      go_enter Tryz.func6, Tryz.ntmps6
      go_wp2_with (first
        | (go_at_call 25; (with_reducible refine CR.out.mono ?_); rintro e W1 ⟨rfl, bb⟩; have B1 := Lib.hid bb; clear bb)
        | (go_at_call 22; (with_reducible refine (CF1.out _ B1.out).mono ?_); rintro e W2 ⟨rfl, bb⟩; have B2 := Lib.hid (B1.out.trans (bb.mono B1.out.size)); clear bb)
        | (go_at_call 23; (with_reducible refine (CG1.out _ B2.out).mono ?_); rintro e W3 ⟨rfl, bb⟩; have B3 := Lib.hid (B2.out.trans (bb.mono B2.out.size)); clear bb)
        | (go_at_call 24; (with_reducible refine (CS.out _).mono ?_); rintro e W4 ⟨rfl, bb⟩; have B4 := Lib.hid (B3.out.trans (bb.mono B3.out.size)); clear bb))
      go_ret
      exact ⟨rfl, B4.out⟩
    | some r =>
      have CF1 : Hid (∀ W, Below w.heap.size w W → Calls Tryz.prog 22 #[.slice a0 ds.length c0, .slice a1 ps.length c1] W fun e W' => ∃ ao cap, e = .returned (.tuple #[.slice ao r.length cap, .bool true]) ∧ DsAt W' (.slice ao r.length cap) r ∧ Below W.heap.size W W') := fun W h => (CF.out W h).mono fun e W' ⟨hb, hh⟩ => by
        rcases hh with ⟨_, ao, cap, h1, h2, h3⟩ | ⟨h1, _⟩
        · cases h1; exact ⟨ao, cap, h2, h3, hb⟩
        · cases h1
      have CG1 : Hid (∀ W, Below w.heap.size w W → Calls Tryz.prog 23 #[.slice a0 ds.length c0, .slice a1 ps.length c1] W fun e W' => ∃ ao cap, e = .returned (.tuple #[.slice ao r.length cap, .bool true]) ∧ DsAt W' (.slice ao r.length cap) r ∧ Below W.heap.size W W') := fun W h => (CG.out W h).mono fun e W' ⟨hb, hh⟩ => by
        rcases hh with ⟨_, ao, cap, h1, h2, h3⟩ | ⟨h1, _⟩
        · cases h1; exact ⟨ao, cap, h2, h3, hb⟩
        · cases h1
      have CF2 : Hid (∀ W v, Below w.heap.size w W → DsAt W v r → Calls Tryz.prog 22 #[v, .slice a1 ps.length c1] W fun e W' => ∃ ao cap, e = .returned (.tuple #[.slice ao r.length cap, .bool true]) ∧ DsAt W' (.slice ao r.length cap) r ∧ Below W.heap.size W W') := fun W v h hv => (fix_r hv (HP.out.below h) (HIN.out.res hR) (fixOf_again hR)).mono fun e W' ⟨hb, hh⟩ => by
        rcases hh with ⟨_, ao, cap, h1, h2, h3⟩ | ⟨h1, _⟩
        · cases h1; exact ⟨ao, cap, h2, h3, hb⟩
        · cases h1
      have CS : Hid (∀ W u v, DsAt W u r → DsAt W v r → Calls Tryz.prog 24 #[u, v] W fun e W' => e = .returned (.bool true) ∧ Below W.heap.size W W') := fun W u v hu hv => (same17_c u v r r W hu hv (by have := HIN.out.n; have := hR.1.len; omega) (allN_short' hR.1.nor)).mono fun e W' ⟨h1, h2⟩ => ⟨by rw [h1]; simp, h2⟩
      clear CF CG hR
      go_enter Tryz.func6, Tryz.ntmps6
      go_upto_region 9 with (first
        | (go_at_call 25; (with_reducible refine CR.out.mono ?_); rintro e W1 ⟨rfl, bb⟩; have B1 := Lib.hid bb; clear bb)
        | (go_at_call 22; (with_reducible refine (CF1.out _ B1.out).mono ?_); rintro e W2 ⟨a2, c2, rfl, d2, bb⟩; have D2 := Lib.hid d2; have B2 := Lib.hid (B1.out.trans (bb.mono B1.out.size)); clear bb d2)
        | (go_at_call 23; (with_reducible refine (CG1.out _ B2.out).mono ?_); rintro e W3 ⟨a3, c3, rfl, d3, bb⟩; have D3 := Lib.hid d3; have E3 := Lib.hid (D2.out.below bb); have B3 := Lib.hid (B2.out.trans (bb.mono B2.out.size)); clear bb d3)
        | (go_at_call 24; (with_reducible refine (CS.out _ _ _ E3.out D3.out).mono ?_); rintro e W4 ⟨rfl, bb⟩; have E4 := Lib.hid (E3.out.below bb); have B4 := Lib.hid (B3.out.trans (bb.mono B3.out.size)); clear bb))
      go_wp2_with (first
        | (go_at_call 22; (with_reducible refine (CF2.out _ _ B4.out E4.out).mono ?_); rintro e W5 ⟨a5, c5, rfl, d5, bb⟩; have D5 := Lib.hid d5; have E5 := Lib.hid (E4.out.below bb); have B5 := Lib.hid (B4.out.trans (bb.mono B4.out.size)); clear bb d5)
        | (go_at_call 24; (with_reducible refine (CS.out _ _ _ D5.out E5.out).mono ?_); rintro e W6 ⟨rfl, bb⟩; have B6 := Lib.hid (B5.out.trans (bb.mono B5.out.size)); clear bb))
      go_ret
      exact ⟨rfl, B6.out⟩
end Go.Proofs.YtajooiainglpmaaGreat
namespace Go.Proofs.YtajooiainglpmaaGreat

theorem onceGo_at (rel c : Int) (ds : Ds) (lo hi : Int) : ∀ (ps : Ps) (out o : Ds), onceGo rel c ds lo hi ps out = some o → (ps.map fun p => p.2.toNat).Nodup → (∀ p ∈ ps, p.2.toNat < out.length) →
    (∀ p ∈ ps, o.getD p.2.toNat [] = narrowAt rel c ds lo hi p) ∧ ∀ j, (∀ p ∈ ps, p.2.toNat ≠ j) → o.getD j [] = out.getD j []
  | [], out, o, h, _, _ => by simp [onceGo] at h; subst h; exact ⟨fun p hp => by simp at hp, fun _ _ => rfl⟩
  | p :: ps, out, o, h, hn, hv => by
    unfold onceGo at h
    split at h
    · cases h
    · rw [List.map_cons, List.nodup_cons] at hn
      have hv' : ∀ q ∈ ps, q.2.toNat < (out.set p.2.toNat (narrowAt rel c ds lo hi p)).length := fun q hq => by rw [List.length_set]; exact hv q (List.mem_cons_of_mem _ hq)
      obtain ⟨h1, h2⟩ := onceGo_at rel c ds lo hi ps _ o h hn.2 hv'
      have hpo : ∀ q ∈ ps, q.2.toNat ≠ p.2.toNat := fun q hq e => hn.1 (List.mem_map.2 ⟨q, hq, e⟩)
      have hp0 := hv p List.mem_cons_self
      refine ⟨fun q hq => ?_, fun j hj => ?_⟩
      · rcases List.mem_cons.1 hq with rfl | hq
        · rw [h2 _ hpo, getD_set, if_pos ⟨rfl, hp0⟩]
        · exact h1 q hq
      · rw [h2 j (fun q hq => hj q (List.mem_cons_of_mem _ hq)), getD_set, if_neg (fun e => hj p List.mem_cons_self e.1)]
/-- what a linear constraint leaves of a variable -/
theorem lin_stays {p : PL} {now d : Ds} (hk : p.kind = 1) (hg : p.Good now.length) (hnd : p.vars.Nodup) (hn : AllN now) (ho : onceP p now = some d) {k v x : Int} (hp : (k, v) ∈ p.coef.zip p.vars) (hx : memL (domOf d v) x = true) :
    staysP p.rel p.c k (loS now (p.coef.zip p.vars) - loT k (domOf now v)) (hiS now (p.coef.zip p.vars) - hiT k (domOf now v)) x = true := by
  obtain ⟨_, ks, hks, rfl, _⟩ := onceP_parts ho
  rw [norm_getD hn] at hks hx
  have hvv := (List.of_mem_zip hp).2
  have hall : p.all = p.vars := by unfold PL.all allL; rw [if_pos hk]
  have hr := hg.vars v (by rw [hall]; exact hvv)
  obtain ⟨_, h2⟩ := keeps_in hn hr.2 hx
  unfold narrowKs at hks
  rw [if_pos hk] at hks
  unfold linKs at hks
  have hz : (p.coef.zip p.vars).map (fun q => q.2.toNat) = p.vars.map Int.toNat := by
    have : (p.coef.zip p.vars).map Prod.snd = p.vars := List.map_snd_zip (by rw [hg.len (.inl hk)]; exact Nat.le_refl _)
    rw [← this, List.map_map, this]; rfl
  cases ho' : onceL p.rel p.c now (p.coef.zip p.vars) with
  | none => rw [ho'] at hks; cases hks
  | some o =>
    rw [ho'] at hks
    simp only [Option.map_some, Option.some.injEq] at hks
    subst hks
    have h3 := h2 (v, domOf o v) (List.mem_map.2 ⟨v, hvv, rfl⟩) rfl
    unfold onceL at ho'
    split at ho'
    · split at ho'
      · cases ho'
      · have h4 := (onceGo_at p.rel p.c now _ _ (p.coef.zip p.vars) (now.map norm) o ho' (by
          rw [hz]
          refine List.pairwise_map.2 (hnd.imp_of_mem fun {a b} ha hb hab e => ?_)
          have h5 := hg.vars a (by rw [hall]; exact ha)
          have h6 := hg.vars b (by rw [hall]; exact hb)
          omega) (fun q hq => by
          have h5 := hg.vars q.2 (by rw [hall]; exact (List.of_mem_zip hq).2)
          rw [List.length_map]; exact h5.2)).1 (k, v) hp
        dsimp only at h3 h4
        unfold domOf at h3
        rw [h4] at h3
        unfold narrowAt at h3
        rw [narrow_mem, Bool.and_eq_true] at h3
        exact h3.2
    · cases ho'
theorem mem_le_sum {l : List Int} (h : ∀ a ∈ l, 0 ≤ a) : 0 ≤ l.sum ∧ ∀ a ∈ l, a ≤ l.sum := by
  induction l with
  | nil => exact ⟨Int.le_refl _, fun a ha => by simp at ha⟩
  | cons b l ih =>
    obtain ⟨h1, h2⟩ := ih (fun a ha => h a (List.mem_cons_of_mem _ ha))
    have hb := h b List.mem_cons_self
    rw [List.sum_cons]
    refine ⟨by omega, fun a ha => ?_⟩
    rcases List.mem_cons.1 ha with rfl | ha
    · omega
    · have := h2 a ha; omega
/-- the least and the greatest of a set that is not empty are in it -/
theorem ends_of {d : List Rg} (h : Normal d) (hne : d ≠ []) : memL d (endsL (norm d)).1 = true ∧ memL d (endsL (norm d)).2.1 = true := by
  have h1 := ends_in d (by rw [okT_nil]; simpa [canon_self h, norm] using hne)
  have e : norm d = d := canon_self h
  rwa [e] at h1 ⊢
/-- a set that is all the integers from a to b -/
theorem set_range {d : List Rg} (h : Normal d) {a b : Int} (ha : -200 ≤ a) (hab : a ≤ b) (hb : b ≤ 200) (hm : ∀ x, memL d x = true ↔ a ≤ x ∧ x ≤ b) : d = [(a, b)] := by
  refine normal_unique h (show Normal [(a, b)] from ⟨ha, hab, hb, trivial⟩) (fun x => ?_)
  rw [Bool.eq_iff_iff, hm x]
  simp [memL]
theorem getD_rep {α : Type} {n j : Nat} {a b : α} (h : j < n) : (List.replicate n a).getD j b = a := by
  rw [List.getD_eq_getElem?_getD, List.getElem?_replicate_of_lt h]; rfl

/-! ### a sum that is known -/
def sumPL (n : Nat) (t : Int) : PL := ⟨1, 1, t, 0, 0, 0, List.replicate n 1, (List.range n).map Int.ofNat, []⟩
theorem sum_zip (n : Nat) (t : Int) : (sumPL n t).coef.zip (sumPL n t).vars = (List.range n).map fun j => ((1 : Int), Int.ofNat j) := by
  apply List.ext_getElem
  · simp [sumPL]
  · intro j h1 h2
    simp [sumPL]
theorem sum_good {n : Nat} {t : Int} : (sumPL n t).Good n := ⟨.inl rfl, fun _ => by simp [sumPL], fun v hv => by
  simp [PL.all, allL, sumPL] at hv
  obtain ⟨j, hj, rfl⟩ := hv
  simp; omega⟩
def solX (n i : Nat) (z t : Int) : List Int := (List.range n).map fun j => if j = i then z else if j = (if i = 0 then 1 else 0) then t - z else 0
theorem sol_at {n i : Nat} {z t : Int} {j : Nat} (hj : j < n) : (solX n i z t).getD j 0 = if j = i then z else if j = (if i = 0 then 1 else 0) then t - z else 0 := by
  unfold solX
  rw [List.getD_eq_getElem?_getD, List.getElem?_map, List.getElem?_range hj]; rfl
theorem sol_sum {n i : Nat} {z t : Int} (hn : n ≤ 6) (hi : i < n) (h1 : n = 1 → z = t) : sumX (solX n i z t) ((List.range n).map fun j => ((1 : Int), Int.ofNat j)) = t := by
  unfold sumX
  rw [List.map_map]
  have e : (List.range n).map ((fun p => p.1 * (solX n i z t).getD p.2.toNat 0) ∘ fun j => ((1 : Int), Int.ofNat j)) = (List.range n).map fun j => if j = i then z else if j = (if i = 0 then 1 else 0) then t - z else 0 := by
    apply List.map_congr_left
    intro j hj
    have hj' : j < n := by simpa using hj
    show 1 * (solX n i z t).getD j 0 = _
    rw [sol_at hj', Int.one_mul]
  rw [e]
  match n, hn, h1, hi with
  | 0, _, _, hi => omega
  | 1, _, h1, hi =>
    obtain rfl : i = 0 := by omega
    simp [h1 rfl]
  | 2, _, _, hi =>
    rcases (show i = 0 ∨ i = 1 by omega) with rfl | rfl <;> simp [List.range, List.range.loop] <;> omega
  | 3, _, _, hi =>
    rcases (show i = 0 ∨ i = 1 ∨ i = 2 by omega) with rfl | rfl | rfl <;> simp [List.range, List.range.loop] <;> omega
  | 4, _, _, hi =>
    rcases (show i = 0 ∨ i = 1 ∨ i = 2 ∨ i = 3 by omega) with rfl | rfl | rfl | rfl <;> simp [List.range, List.range.loop] <;> omega
  | 5, _, _, hi =>
    rcases (show i = 0 ∨ i = 1 ∨ i = 2 ∨ i = 3 ∨ i = 4 by omega) with rfl | rfl | rfl | rfl | rfl <;> simp [List.range, List.range.loop] <;> omega
  | 6, _, _, hi =>
    rcases (show i = 0 ∨ i = 1 ∨ i = 2 ∨ i = 3 ∨ i = 4 ∨ i = 5 by omega) with rfl | rfl | rfl | rfl | rfl | rfl <;> simp [List.range, List.range.loop] <;> omega
  | n + 7, hn, _, _ => omega
theorem sums_fix {n : Nat} {t : Int} (hn : 1 ≤ n ∧ n ≤ 6) (ht : 0 ≤ t ∧ t < 40) {R : Option Ds} (h : FixOf [sumPL n t] (List.replicate n [(0, 50)]) R) : R = some (List.replicate n [(if n = 1 then t else 0, t)]) := by
  have hN : norm [((0 : Int), (50 : Int))] = [(0, 50)] := canon_self (show Normal [((0 : Int), (50 : Int))] from ⟨by decide, by decide, by decide, trivial⟩)
  have hD : (List.replicate n [((0 : Int), (50 : Int))]).map norm = List.replicate n [(0, 50)] := by rw [List.map_replicate, hN]
  have hkeep : ∀ i, i < n → ∀ z, 0 ≤ z ∧ z ≤ t → (n = 1 → z = t) → ∃ r, R = some r ∧ r.length = n ∧ AllN r ∧ memL (r.getD i []) z = true := fun i hi z hz h1 => by
    have hb : ∀ v ∈ solX n i z t, 0 ≤ v ∧ v ≤ 40 := fun v hv => by
      unfold solX at hv
      obtain ⟨j, _, rfl⟩ := List.mem_map.1 hv
      split
      · omega
      · split <;> omega
    obtain ⟨r, a, b, c, d⟩ := fixOf_keeps (x := solX n i z t) (fun p hp => by
        rw [List.mem_singleton.1 hp, List.length_replicate]
        exact ⟨sum_good, fun _ => .inl rfl⟩) (fun v hv => by have := hb v hv; omega) (by
        rw [hD]
        refine ⟨by simp [solX], fun j hj => ?_⟩
        rw [List.length_replicate] at hj
        rw [getD_rep hj]
        have hl : j < (solX n i z t).length := by simp [solX]; exact hj
        have := hb ((solX n i z t).getD j 0) (by rw [List.getD_eq_getElem?_getD, List.getElem?_eq_getElem hl]; exact List.getElem_mem hl)
        generalize (solX n i z t).getD j 0 = u at *
        simp [memL]; omega) (fun p hp => by
        rw [List.mem_singleton.1 hp]
        unfold holdsP
        rw [if_pos (show (sumPL n t).kind = 1 from rfl), sum_zip, sumV_in _ _ (fun q hq => by
          obtain ⟨j, hj, rfl⟩ := List.mem_map.1 hq
          simp [solX] at hj ⊢; omega), sol_sum hn.2 hi h1]
        simp [holdsS, sumPL]) h
    rw [List.length_replicate] at b d
    refine ⟨r, a, b, c, ?_⟩
    have := d i hi
    rwa [sol_at hi, if_pos rfl] at this
  obtain ⟨r, rfl, hl, hNr, _⟩ := hkeep 0 (by omega) t (by omega) (fun _ => rfl)
  obtain ⟨hc, _⟩ := h
  have hin : ∀ j, j < n → ∀ x, memL (r.getD j []) x = true → 0 ≤ x := fun j hj x hx => by
    have := hc.sub j x hx
    rw [hD, getD_rep hj] at this
    simp [memL] at this; omega
  have hlo : ∀ j, j < n → 0 ≤ loT 1 (r.getD j []) := fun j hj => by
    have := hin j hj _ (ends_of (hNr j) (hc.non j (by omega))).1
    unfold loT; rw [if_neg (by decide)]; omega
  have hup : ∀ j, j < n → ∀ x, memL (r.getD j []) x = true → x ≤ t ∧ (n = 1 → x = t) := fun j hj x hx => by
    have h1 := lin_stays (p := sumPL n t) (k := 1) (v := Int.ofNat j) rfl (by rw [hl]; exact sum_good) (by
      show ((List.range n).map Int.ofNat).Nodup
      exact List.pairwise_map.2 (List.nodup_range.imp fun {a b} hab e => hab (by injection e))) hNr (hc.fix _ (List.mem_singleton_self _)) (by rw [sum_zip]; exact List.mem_map.2 ⟨j, by simpa using hj, rfl⟩) (x := x) (by unfold domOf; simpa using hx)
    rw [sum_zip] at h1
    have hds : domOf r (Int.ofNat j) = r.getD j [] := by unfold domOf; simp
    rw [hds] at h1
    have hsum : loS r ((List.range n).map fun j => ((1 : Int), Int.ofNat j)) = ((List.range n).map fun j => loT 1 (r.getD j [])).sum := by
      unfold loS; rw [List.map_map]; congr 1
    have h2 := (mem_le_sum (l := (List.range n).map fun j => loT 1 (r.getD j [])) (fun a ha => by
      obtain ⟨i, hi, rfl⟩ := List.mem_map.1 ha
      exact hlo i (by simpa using hi))).2 (loT 1 (r.getD j [])) (List.mem_map.2 ⟨j, by simpa using hj, rfl⟩)
    rw [hsum] at h1
    unfold staysP at h1
    rw [if_neg (show ¬ (sumPL n t).rel = 3 by show ¬ ((1 : Int) = 3); decide), if_neg (show ¬ (sumPL n t).rel = 2 by show ¬ ((1 : Int) = 2); decide), Bool.and_eq_true, decide_eq_true_eq, decide_eq_true_eq, show (sumPL n t).c = t from rfl] at h1
    refine ⟨by omega, fun e => ?_⟩
    subst e
    obtain rfl : j = 0 := by omega
    have e1 : ((List.range 1).map fun j => loT 1 (r.getD j [])).sum = loT 1 (r.getD 0 []) := by simp [List.range, List.range.loop]
    have e2 : hiS r ((List.range 1).map fun j => ((1 : Int), Int.ofNat j)) = hiT 1 (r.getD 0 []) := by simp [hiS, List.range, List.range.loop, domOf]
    rw [e1, e2] at h1
    omega
  refine congrArg some ?_
  apply List.ext_getElem (by simp [hl])
  intro j hj1 hj2
  have hj : j < n := by omega
  have e : r.getD j [] = r[j] := by rw [List.getD_eq_getElem?_getD, List.getElem?_eq_getElem hj1]; rfl
  rw [List.getElem_replicate]
  have hNj := hNr j
  rw [e] at hNj
  refine set_range hNj (by split <;> omega) (by split <;> omega) (by omega) (fun x => ?_)
  rw [← e]
  constructor
  · intro hx
    have h1 := hin j hj x hx
    have h2 := hup j hj x hx
    by_cases e1 : n = 1
    · rw [if_pos e1]; have := h2.2 e1; omega
    · rw [if_neg e1]; omega
  · intro hx
    by_cases e1 : n = 1
    · rw [if_pos e1] at hx
      obtain ⟨r', h1, _, _, h2⟩ := hkeep j hj x (by omega) (fun _ => by omega)
      have h1 := Option.some.inj h1; subst h1; exact h2
    · rw [if_neg e1] at hx
      obtain ⟨r', h1, _, _, h2⟩ := hkeep j hj x (by omega) (fun h => absurd h e1)
      have h1 := Option.some.inj h1; subst h1; exact h2

/-! ### a chain -/
def linkPL (i : Nat) : PL := ⟨1, 3, -1, 0, 0, 0, [1, -1], [(i : Int), ((i + 1 : Nat) : Int)], []⟩
def chainPs (n : Nat) : List PL := (List.range (n - 1)).map linkPL
theorem link_good {n i : Nat} (h : i + 1 < n) : (linkPL i).Good n := ⟨.inl rfl, fun _ => rfl, fun v hv => by
  simp [PL.all, allL, linkPL] at hv
  rcases hv with rfl | rfl <;> omega⟩
theorem chain_fix {n : Nat} {w : Int} (hn : 1 ≤ n ∧ n ≤ 8) (hw : 0 ≤ w ∧ w < 30) {R : Option Ds} (h : FixOf (chainPs n) (List.replicate n [(0, w)]) R) :
    (w < (n : Int) - 1 → R = none) ∧ (¬ w < (n : Int) - 1 → R = some ((List.range n).map fun i : Nat => [((i : Int), w - ((n : Int) - 1 - (i : Int)))])) := by
  have hN : norm [((0 : Int), w)] = [(0, w)] := canon_self (show Normal [((0 : Int), w)] from ⟨by dsimp only; omega, by dsimp only; omega, by dsimp only; omega, trivial⟩)
  have hD : (List.replicate n [((0 : Int), w)]).map norm = List.replicate n [(0, w)] := by rw [List.map_replicate, hN]
  have hmem : ∀ p, p ∈ chainPs n → ∃ i, i + 1 < n ∧ p = linkPL i := fun p hp => by
    obtain ⟨i, hi, rfl⟩ := List.mem_map.1 hp
    have : i < n - 1 := by simpa using hi
    exact ⟨i, by omega, rfl⟩
  have hbnd : ∀ r, R = some r → r.length = n ∧ AllN r ∧ AllE r ∧ ∀ j, j < n → ∀ x, memL (r.getD j []) x = true → (j : Int) ≤ x ∧ x ≤ w - ((n : Int) - 1 - (j : Int)) := fun r e => by
    subst e
    obtain ⟨hc, _⟩ := h
    have hl : r.length = n := by have := hc.len; simpa using this
    have hNr := hc.nor
    have hstep : ∀ i, i + 1 < n → (∀ x, memL (r.getD i []) x = true → x ≤ (endsL (norm (r.getD (i + 1) []))).2.1 - 1) ∧ (∀ x, memL (r.getD (i + 1) []) x = true → (endsL (norm (r.getD i []))).1 + 1 ≤ x) := fun i hi => by
      have hfix := hc.fix (linkPL i) (List.mem_map.2 ⟨i, by simp; omega, rfl⟩)
      have hz : (linkPL i).coef.zip (linkPL i).vars = [(1, (i : Int)), (-1, ((i + 1 : Nat) : Int))] := rfl
      have hnd : (linkPL i).vars.Nodup := by simp [linkPL]; omega
      have d1 : domOf r (i : Int) = r.getD i [] := by unfold domOf; simp
      have d2 : domOf r ((i + 1 : Nat) : Int) = r.getD (i + 1) [] := by unfold domOf; rw [Int.toNat_natCast]
      have hS : loS r [((1 : Int), (i : Int)), (-1, ((i + 1 : Nat) : Int))] = loT 1 (r.getD i []) + loT (-1) (r.getD (i + 1) []) := by
        unfold loS; simp only [List.map_cons, List.map_nil, List.sum_cons, List.sum_nil, d1, d2]; omega
      refine ⟨fun x hx => ?_, fun x hx => ?_⟩
      · have h1 := lin_stays (p := linkPL i) (k := 1) (v := (i : Int)) rfl (by rw [hl]; exact link_good hi) hnd hNr hfix (by rw [hz]; simp) (x := x) (by rw [d1]; exact hx)
        rw [hz, hS, d1] at h1
        unfold staysP at h1
        rw [if_pos (show (linkPL i).rel = 3 from rfl), decide_eq_true_eq, show (linkPL i).c = -1 from rfl] at h1
        have : loT (-1) (r.getD (i + 1) []) = -1 * (endsL (norm (r.getD (i + 1) []))).2.1 := by unfold loT; rw [if_pos (by decide)]
        rw [this] at h1
        omega
      · have h1 := lin_stays (p := linkPL i) (k := -1) (v := ((i + 1 : Nat) : Int)) rfl (by rw [hl]; exact link_good hi) hnd hNr hfix (by rw [hz]; simp) (x := x) (by rw [d2]; exact hx)
        rw [hz, hS, d2] at h1
        unfold staysP at h1
        rw [if_pos (show (linkPL i).rel = 3 from rfl), decide_eq_true_eq, show (linkPL i).c = -1 from rfl] at h1
        have : loT 1 (r.getD i []) = 1 * (endsL (norm (r.getD i []))).1 := by unfold loT; rw [if_neg (by decide)]
        rw [this] at h1
        omega
    have hsub : ∀ j, j < n → ∀ x, memL (r.getD j []) x = true → 0 ≤ x ∧ x ≤ w := fun j hj x hx => by
      have := hc.sub j x hx
      rw [hD, getD_rep hj] at this
      simp [memL] at this; omega
    have hends : ∀ j, j < n → memL (r.getD j []) (endsL (norm (r.getD j []))).1 = true ∧ memL (r.getD j []) (endsL (norm (r.getD j []))).2.1 = true := fun j hj => ends_of (hNr j) (hc.non j (by omega))
    have hlow : ∀ j, j < n → ∀ x, memL (r.getD j []) x = true → (j : Int) ≤ x := by
      intro j
      induction j with
      | zero => intro hj x hx; exact (hsub 0 hj x hx).1
      | succ j ih =>
        intro hj x hx
        have h1 := (hstep j hj).2 x hx
        have h2 := ih (by omega) _ (hends j (by omega)).1
        omega
    have hhigh : ∀ k j, j + k = n - 1 → j < n → ∀ x, memL (r.getD j []) x = true → x ≤ w - k := by
      intro k
      induction k with
      | zero => intro j _ hj x hx; have := (hsub j hj x hx).2; omega
      | succ k ih =>
        intro j hjk hj x hx
        have h1 := (hstep j (by omega)).1 x hx
        have h2 := ih (j + 1) (by omega) (by omega) _ (hends (j + 1) (by omega)).2
        omega
    refine ⟨hl, hNr, hc.non, fun j hj x hx => ⟨hlow j hj x hx, ?_⟩⟩
    have := hhigh (n - 1 - j) j (by omega) hj x hx
    omega
  have hkeep : ∀ s : Int, 0 ≤ s → s ≤ w - ((n : Int) - 1) → ∃ r, R = some r ∧ ∀ j : Nat, j < n → memL (r.getD j []) ((j : Int) + s) = true := fun s hs hs2 => by
    have hat : ∀ j : Nat, j < n → ((List.range n).map fun k : Nat => (k : Int) + s).getD j 0 = (j : Int) + s := fun j hj => by
      rw [List.getD_eq_getElem?_getD, List.getElem?_map, List.getElem?_range hj]; rfl
    obtain ⟨r, a, _, _, d⟩ := fixOf_keeps (x := (List.range n).map fun k : Nat => (k : Int) + s) (fun p hp => by
        obtain ⟨i, hi, rfl⟩ := hmem p hp
        rw [List.length_replicate]
        exact ⟨link_good hi, fun _ => .inr (.inr rfl)⟩) (fun v hv => by
        obtain ⟨k, hk, rfl⟩ := List.mem_map.1 hv
        have : k < n := by simpa using hk
        omega) (by
        rw [hD]
        refine ⟨by simp, fun j hj => ?_⟩
        rw [List.length_replicate] at hj
        rw [getD_rep hj, hat j hj]
        have : (0 : Int) ≤ (j : Int) + s ∧ (j : Int) + s ≤ w := by omega
        generalize (j : Int) + s = u at *
        simp [memL]; omega) (fun p hp => by
        obtain ⟨i, hi, rfl⟩ := hmem p hp
        unfold holdsP
        rw [if_pos (show (linkPL i).kind = 1 from rfl), show (linkPL i).coef.zip (linkPL i).vars = [(1, (i : Int)), (-1, ((i + 1 : Nat) : Int))] from rfl, sumV_in _ _ (fun q hq => by
          simp at hq
          rcases hq with rfl | rfl <;> simp <;> omega)]
        have h1 := hat i (by omega)
        have h2 := hat (i + 1) hi
        have : sumX ((List.range n).map fun k : Nat => (k : Int) + s) [((1 : Int), (i : Int)), (-1, ((i + 1 : Nat) : Int))] = -1 := by
          unfold sumX
          simp only [List.map_cons, List.map_nil, List.sum_cons, List.sum_nil, Int.toNat_natCast, h1, h2]
          omega
        rw [this]
        simp [holdsS, linkPL]) h
    refine ⟨r, a, fun j hj => ?_⟩
    have := d j (by rw [List.length_replicate]; exact hj)
    rwa [hat j hj] at this
  constructor
  · intro hlt
    cases e : R with
    | none => rfl
    | some r =>
      obtain ⟨hl, hNr, hE, hb⟩ := hbnd r e
      have h1 := hb (n - 1) (by omega) _ (ends_of (hNr (n - 1)) (hE (n - 1) (by omega))).1
      omega
  · intro hge
    obtain ⟨r, rfl, _⟩ := hkeep 0 (by omega) (by omega)
    obtain ⟨hl, hNr, hE, hb⟩ := hbnd r rfl
    refine congrArg some ?_
    apply List.ext_getElem (by simp [hl])
    intro j hj1 hj2
    have hj : j < n := by omega
    have e : r.getD j [] = r[j] := by rw [List.getD_eq_getElem?_getD, List.getElem?_eq_getElem hj1]; rfl
    rw [List.getElem_map, List.getElem_range]
    have hNj := hNr j
    rw [e] at hNj
    refine set_range hNj (by omega) (by omega) (by omega) (fun x => ?_)
    rw [← e]
    constructor
    · exact hb j hj x
    · intro hx
      obtain ⟨r', h1, h2⟩ := hkeep (x - j) (by omega) (by omega)
      have h1 := Option.some.inj h1
      subst h1
      have := h2 j hj
      rwa [show (j : Int) + (x - j) = x by omega] at this
end Go.Proofs.YtajooiainglpmaaGreat
