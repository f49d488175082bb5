/-
  What the laws of layer 17 begin with: the bound, the check.
  fix.Fix with what it comes to named ahead; Check of no constraint, and of one of no kind.
-/
import Derived.Test.YtajooiainglpmaaGreatKfix1
import Derived.Test.YtajooiainglpmaaGreatKdom4
import Derived.Test.YtajooiainglpmaaGreatKonce10
import Derived.Test.YtajooiainglpmaaGreatKonce11
namespace Go.Proofs.YtajooiainglpmaaGreat
open Go.RowKit

def bigD (d : List Rg) : Bool := decide (4 < d.length) || decide (60 < sizeL (norm d))
def bigP (p : PL) : Bool := decide (5 < p.vars.length) || decide (5 < p.coef.length) || decide (6 < p.vs.length)
def many17 (ds : Ds) (ps : List PL) : Bool := decide (5 < ds.length) || decide (6 < ps.length) || ds.any bigD || ps.any bigP
theorem many17_ok {ds : Ds} {ps : List PL} (h : many17 ds ps = false) : ds.length ≤ 5 ∧ ps.length ≤ 6 ∧ (∀ d ∈ ds, d.length ≤ 4) ∧ ∀ p ∈ ps, p.coef.length ≤ 5 ∧ p.vars.length ≤ 5 ∧ p.vs.length ≤ 6 := by
  simp only [many17, bigD, bigP, Bool.or_eq_false_iff, decide_eq_false_iff_not, List.any_eq_false, decide_eq_true_eq, Bool.or_eq_true, not_or] at h
  obtain ⟨⟨⟨h1, h2⟩, h3⟩, h4⟩ := h
  exact ⟨by omega, by omega, fun d hd => by have := (h3 d hd).1; omega, fun p hp => by have := h4 p hp; omega⟩
theorem any_snoc {α : Type} {l : List α} {f : α → Bool} {k : Nat} (hk : k < l.length) (h : (l.take k).any f = false) (h2 : f l[k] = false) : (l.take (k + 1)).any f = false := by
  rw [List.take_succ_eq_append_getElem hk, List.any_append, h]; simp [h2]
theorem any_hit {α : Type} {l : List α} {f : α → Bool} {k : Nat} (hk : k < l.length) (h : f l[k] = true) : l.any f = true := by
  rw [List.any_eq_true]; exact ⟨l[k], List.getElem_mem hk, h⟩

set_option maxRecDepth 100000 in
set_option maxHeartbeats 1600000 in
theorem many17_c (vds vps : Value) (ds : Ds) (ps : List PL) (w : World) (hd : DsAt w vds ds) (hp : PsAt w vps ps) :
    Calls Tryz.prog 53 #[vds, vps] w fun e w' => e = .returned (.bool (many17 ds ps)) ∧ Below w.heap.size w w' := by
  obtain ⟨a0, c0, rfl, _⟩ := hd.shape
  obtain ⟨a1, c1, rfl, _⟩ := hp.shape
  have HD := Lib.hid hd
  have HP := Lib.hid hp
  clear hd hp
  unfold many17
  by_cases g1 : 5 < ds.length
  · go_enter Tryz.func53, Tryz.ntmps53
    go_wp2
    go_ret
    exact ⟨ret_bool (by simp), Below.refl _ _⟩
  by_cases g2 : 6 < ps.length
  · go_enter Tryz.func53, Tryz.ntmps53
    go_wp2
    go_ret
    exact ⟨ret_bool (by simp [g2]), Below.refl _ _⟩
  rw [show (decide (5 < ds.length) || decide (6 < ps.length) || ds.any bigD || ps.any bigP) = (ds.any bigD || ps.any bigP) by simp [g1, g2]]
  go_enter Tryz.func53, Tryz.ntmps53
  go_wp2
  go_loopw [5] (fun s wr => ∃ k : Nat, k ≤ ds.length ∧ s = .int .i64 k ∧ Hid ((ds.take k).any bigD = false) ∧ Hid (Below w.heap.size w wr)) (fun s _ => ds.length - (intOf s).toNat)
  case atStart => exact ⟨0, by omega, rfl, rfl, Lib.hid (Below.refl _ _)⟩
  case round =>
    obtain ⟨k, hk, rfl, HE, HB⟩ := hrel
    have hle := HB.out.size
    by_cases hlt : k < ds.length
    · obtain ⟨b, off, ao, cap, rfl, q1, q2, _, hc, hrg⟩ := HD.out.get k hlt
      have j1 : (k : Int) < ds.length := by omega
      rw [← HB.out.cell (p := ⟨b, off + k, none⟩) q2] at hc
      have HS : Hid (bigD ds[k] = false → (ds.take (k + 1)).any bigD = false) := fun h => any_snoc hlt HE.out h
      have HT : Hid (bigD ds[k] = true → (ds.any bigD || ps.any bigP) = true) := fun h => by rw [any_hit hlt h]; rfl
      have CZ0 : ds[k].length ≤ 4096 → Calls Tryz.prog 10 #[.slice ao ds[k].length cap] wr fun e w' => e = .returned (.int .i64 (sizeL (norm ds[k]))) ∧ Below wr.heap.size wr w' := fun h => refSize_c _ _ wr (hrg.below HB.out) h
      clear hrg
      generalize ds[k] = d at *
      by_cases hx : 4 < d.length
      · have HT2 := Lib.hid (HT.out (by unfold bigD; simp [hx]))
        clear CZ0
        go_wp2
        go_ret
        exact ⟨ret_bool (by rw [HT2.out]), HB.out⟩
      · have CZ := Lib.hid (CZ0 (by omega))
        clear CZ0
        by_cases hy : 60 < sizeL (norm d)
        · have HT2 := Lib.hid (HT.out (by unfold bigD; simp [hy]))
          go_wp2_with (go_at_call 10; (with_reducible refine CZ.out.mono ?_); rintro e W1 ⟨rfl, bb⟩; have B1 := Lib.hid (HB.out.trans (bb.mono hle)); clear bb)
          go_ret
          exact ⟨ret_bool (by rw [HT2.out]), B1.out⟩
        · have HS2 := Lib.hid (HS.out (by unfold bigD; simp [hx, hy]))
          go_wp2_with (go_at_call 10; (with_reducible refine CZ.out.mono ?_); rintro e W1 ⟨rfl, bb⟩; have B1 := Lib.hid (HB.out.trans (bb.mono hle)); clear bb)
          exact ⟨⟨k + 1, by omega, by go_num, HS2, B1⟩, by simp [intOf]; omega⟩
    · obtain rfl : k = ds.length := by omega
      rw [List.take_length] at HE
      have HED := Lib.hid HE.out
      obtain ⟨W2, hW2⟩ : ∃ W2 : World, W2 = wr := ⟨_, rfl⟩
      subst hW2
      clear HE hlt hk hle
      have HP2 : Hid (PsAt W2 (.slice a1 ps.length c1) ps) := HP.out.below HB.out
      go_wp2
      go_loop [6] (fun s => ∃ k : Nat, k ≤ ps.length ∧ s = .int .i64 k ∧ Hid ((ps.take k).any bigP = false)) (fun s => ps.length - (intOf s).toNat)
      case atStart => exact ⟨0, by omega, rfl, rfl⟩
      case round =>
        obtain ⟨k, hk, rfl, HE⟩ := hrel
        by_cases hlt : k < ps.length
        · obtain ⟨b1, o1, va, vb, vv, rfl, q1, cc, i0, i1, i2⟩ := HP2.out.get k hlt
          have j1 : (k : Int) < ps.length := by omega
          obtain ⟨x0, x1, x2, x3, x4, x5, x6, x7, x8⟩ := cc
          have HS : Hid (bigP ps[k] = false → (ps.take (k + 1)).any bigP = false) := fun h => any_snoc hlt HE.out h
          have HT : Hid (bigP ps[k] = true → (ds.any bigD || ps.any bigP) = true) := fun h => by rw [any_hit hlt h, Bool.or_true]
          obtain ⟨b3, n3, rfl, _⟩ := SlAt.shape i0
          obtain ⟨b4, n4, rfl, _⟩ := SlAt.shape i1
          obtain ⟨b5, n5, rfl, _⟩ := SlAt.shape i2
          clear i0 i1 i2
          generalize ps[k] = p at *
          by_cases h1 : 5 < p.vars.length
          · have HT2 := Lib.hid (HT.out (by unfold bigP; simp [h1]))
            go_wp2
            go_ret
            exact ⟨ret_bool (by rw [HT2.out]), HB.out⟩
          by_cases h2 : 5 < p.coef.length
          · have HT2 := Lib.hid (HT.out (by unfold bigP; simp [h2]))
            go_wp2
            go_ret
            exact ⟨ret_bool (by rw [HT2.out]), HB.out⟩
          by_cases h3 : 6 < p.vs.length
          · have HT2 := Lib.hid (HT.out (by unfold bigP; simp [h3]))
            go_wp2
            go_ret
            exact ⟨ret_bool (by rw [HT2.out]), HB.out⟩
          have HS2 := Lib.hid (HS.out (by unfold bigP; simp [h1, h2, h3]))
          go_wp2
          exact ⟨⟨k + 1, by omega, by go_num, HS2⟩, by simp [intOf]; omega⟩
        · obtain rfl : k = ps.length := by omega
          rw [List.take_length] at HE
          go_wp2
          go_ret
          exact ⟨ret_bool (by rw [HED.out, HE.out]; rfl), HB.out⟩

def right17 (ds : Ds) (ps : List PL) : Bool := !many17 ds ps && decide (fixChk ds.length ps = 0)
set_option maxRecDepth 100000 in
set_option maxHeartbeats 800000 in
theorem right17_c (vds vps : Value) (ds : Ds) (ps : List PL) (w : World) (hd : DsAt w vds ds) (hp : PsAt w vps ps) :
    Calls Tryz.prog 25 #[vds, vps] w fun e w' => e = .returned (.bool (right17 ds ps)) ∧ Below w.heap.size w w' := by
  have CM := Lib.hid (many17_c vds vps ds ps w hd hp)
  have CC : Hid (∀ W, Below w.heap.size w W → many17 ds ps = false → Calls Tryz.prog 54 #[vds, vps] W fun e w' => e = .returned (.int .i64 (fixChk ds.length ps)) ∧ Below W.heap.size W w') := fun W h hm => by
    obtain ⟨m1, m2, m3, m4⟩ := many17_ok hm
    exact refFixCheck_c vds vps ds ps W (hd.below h) (hp.below h) (fun j hj => by have := m4 _ (List.getElem_mem hj); exact ⟨by omega, by omega, by omega⟩)
  obtain ⟨a0, c0, rfl, _⟩ := hd.shape
  obtain ⟨a1, c1, rfl, _⟩ := hp.shape
  clear hd hp
  unfold right17
  generalize hm : many17 ds ps = m at *
  clear hm
  generalize hr : fixChk ds.length ps = r at *
  clear hr
  cases m
  · have CC1 : Hid (∀ W, Below w.heap.size w W → Calls Tryz.prog 54 #[.slice a0 ds.length c0, .slice a1 ps.length c1] W fun e w' => e = .returned (.int .i64 r) ∧ Below W.heap.size W w') := fun W h => CC.out W h rfl
    clear CC
    by_cases hr0 : r = 0
    · subst hr0
      go_enter Tryz.func25, Tryz.ntmps25
      go_wp2_with (first
        | (go_at_call 53; (with_reducible refine CM.out.mono ?_); rintro e W1 ⟨rfl, bb⟩; have B1 := Lib.hid bb; clear bb)
        | (go_at_call 54; (with_reducible refine (CC1.out _ B1.out).mono ?_); rintro e W2 ⟨rfl, bb⟩; have B2 := Lib.hid (B1.out.trans (bb.mono B1.out.size)); clear bb))
      go_ret
      exact ⟨ret_bool (by simp), B2.out⟩
    · have hr1 : (r == 0) = false := beqf hr0
      go_enter Tryz.func25, Tryz.ntmps25
      go_wp2_with (first
        | (go_at_call 53; (with_reducible refine CM.out.mono ?_); rintro e W1 ⟨rfl, bb⟩; have B1 := Lib.hid bb; clear bb)
        | (go_at_call 54; (with_reducible refine (CC1.out _ B1.out).mono ?_); rintro e W2 ⟨rfl, bb⟩; have B2 := Lib.hid (B1.out.trans (bb.mono B1.out.size)); clear bb))
      go_ret
      exact ⟨ret_bool (by simp [hr0]), B2.out⟩
  · go_enter Tryz.func25, Tryz.ntmps25
    go_wp2_with (go_at_call 53; (with_reducible refine CM.out.mono ?_); rintro e W1 ⟨rfl, bb⟩; have B1 := Lib.hid bb; clear bb)
    go_ret
    exact ⟨ret_bool (by simp), B1.out⟩
theorem right17_in {ds : Ds} {ps : List PL} (h : right17 ds ps = true) : FixIn ds ps := by
  unfold right17 at h
  rw [Bool.and_eq_true, Bool.not_eq_true', decide_eq_true_eq] at h
  obtain ⟨h1, h2⟩ := h
  obtain ⟨m1, m2, m3, m4⟩ := many17_ok h1
  have hdm : ∀ d ∈ ds, d.length ≤ 4096 := fun d hd => by have := m3 d hd; omega
  have hc : ∀ p ∈ ps, p.chk ds.length = 0 := fun p hp => by
    obtain ⟨j, hj, rfl⟩ := List.mem_iff_getElem.1 hp
    apply Classical.byContradiction
    intro hne
    -- the first one that is told
    have hex : ∃ k, ∃ hk : k < ps.length, ps[k].chk ds.length ≠ 0 ∧ ∀ i, (hi : i < ps.length) → i < k → ps[i].chk ds.length = 0 := by
      have : ∀ m, m ≤ ps.length → (∀ i, (hi : i < ps.length) → i < m → ps[i].chk ds.length = 0) ∨ ∃ k, ∃ hk : k < ps.length, ps[k].chk ds.length ≠ 0 ∧ ∀ i, (hi : i < ps.length) → i < k → ps[i].chk ds.length = 0 := by
        intro m
        induction m with
        | zero => exact fun _ => .inl fun i _ hi => absurd hi (Nat.not_lt_zero _)
        | succ m ih =>
          intro hm
          rcases ih (by omega) with h | h
          · by_cases e : ps[m].chk ds.length = 0
            · exact .inl fun i hi him => by
                rcases Nat.lt_or_ge i m with g | g
                · exact h i hi g
                · obtain rfl : i = m := by omega
                  exact e
            · exact .inr ⟨m, by omega, e, h⟩
          · exact .inr h
      rcases this ps.length (Nat.le_refl _) with h | h
      · exact absurd (h j hj hj) hne
      · exact h
    obtain ⟨k, hk, h3, h4⟩ := hex
    have := fix_hit (m := ds.length) (ps := ps) (by omega) (by omega) hk h4 h3
    rw [h2] at this
    exact h3 this.symm
  exact ⟨fun p hp => chk_fine p ds (hc p hp) hdm, fun p hp => by have := m4 p hp; exact ⟨by omega, by omega, by omega⟩, by omega, hdm, by omega⟩
end Go.Proofs.YtajooiainglpmaaGreat
namespace Go.Proofs.YtajooiainglpmaaGreat
open Go.RowKit

theorem fixOf_exists {ps : List PL} {D : Ds} (hg : ∀ p ∈ ps, p.Good D.length) : ∃ R, FixOf ps D R := by
  have go : ∀ (n : Nat) (now : Ds), tot now ≤ n → OnWay ps D now → ∃ R, FixOf ps D R := by
    intro n
    induction n with
    | zero =>
      intro now hn h
      by_cases hs : ∀ p ∈ ps, onceP p now = some now
      · exact ⟨_, onWay_end h hs⟩
      · simp only [Classical.not_forall] at hs
        obtain ⟨p, hp, hne⟩ := hs
        cases ho : onceP p now with
        | none => exact ⟨_, onWay_gone hp (hg p hp) h ho⟩
        | some d =>
          have := (once_tot h.nor ho).2 (fun e => hne (by rw [ho, e]))
          omega
    | succ n ih =>
      intro now hn h
      by_cases hs : ∀ p ∈ ps, onceP p now = some now
      · exact ⟨_, onWay_end h hs⟩
      · simp only [Classical.not_forall] at hs
        obtain ⟨p, hp, hne⟩ := hs
        cases ho : onceP p now with
        | none => exact ⟨_, onWay_gone hp (hg p hp) h ho⟩
        | some d =>
          have := (once_tot h.nor ho).2 (fun e => hne (by rw [ho, e]))
          exact ih d (by omega) (onWay_step hp (hg p hp) h ho)
  by_cases he : ∀ j, (hj : j < D.length) → norm D[j] ≠ []
  · exact go _ _ (Nat.le_refl _) (onWay_start (allE_of he))
  · simp only [Classical.not_forall] at he
    obtain ⟨j, hj, hn⟩ := he
    exact ⟨none, onWay_none hj (by rw [List.getD_eq_getElem?_getD, List.getElem?_eq_getElem hj]; exact Classical.not_not.1 hn)⟩
theorem fix_r {ds : Ds} {ps : List PL} {vds vps : Value} {w : World} (hd : DsAt w vds ds) (hp : PsAt w vps ps) (hin : FixIn ds ps) {R : Option Ds} (hR : FixOf ps ds R) : Calls Tryz.prog 22 #[vds, vps] w (RetO R w) :=
  (fix_c ds ps vds vps w hd hp hin).mono fun _ _ ⟨_, h1, h2⟩ => by rw [fixOf_unique hR h1]; exact h2
theorem FixIn.res {ds r : Ds} {ps : List PL} (h : FixIn ds ps) (hr : FixOf ps ds (some r)) : FixIn r ps :=
  ⟨fun p hp => (h.fine p hp).now hr.1.len hr.1.nor, h.ok, by rw [hr.1.len]; exact h.n, allN_short' hr.1.nor, h.P⟩
def p0 : PL := ⟨0, 0, 0, 0, 0, 0, [], [], []⟩
theorem p0_at (w : World) (T : TypeId) : PsAt (w.alloc (.cells #[.int .i64 0, .slice none 0 0, .slice none 0 0, .int .i64 0, .int .i64 0, .int .i64 0, .int .i64 0, .int .i64 0, .slice none 0 0] T)) (.slice (some ⟨w.heap.size, 0, none⟩) 1 1) [p0] := by
  have B := BoxL.mk' w #[.int .i64 0, .slice none 0 0, .slice none 0 0, .int .i64 0, .int .i64 0, .int .i64 0, .int .i64 0, .int .i64 0, .slice none 0 0] T
  refine ⟨_, 1, rfl, Nat.le_refl _, by decide, fun _ => ⟨w.heap.size, 0, rfl, by simp, fun j hj => ?_⟩⟩
  obtain rfl : j = 0 := by simpa using hj
  refine ⟨.slice none 0 0, .slice none 0 0, .slice none 0 0, ⟨(B.get 0 rfl).1, (B.get 1 rfl).1, (B.get 2 rfl).1, (B.get 3 rfl).1, (B.get 4 rfl).1, (B.get 5 rfl).1, (B.get 6 rfl).1, (B.get 7 rfl).1, (B.get 8 rfl).1⟩, SlAt.nil, SlAt.nil, SlAt.nil⟩
/-- a constraint of no kind is none -/
theorem fixCheck_p0 (w : World) (T : TypeId) : Calls Tryz.prog 26 #[.slice none 0 0, .slice (some ⟨w.heap.size, 0, none⟩) 1 1] (w.alloc (.cells #[.int .i64 0, .slice none 0 0, .slice none 0 0, .int .i64 0, .int .i64 0, .int .i64 0, .int .i64 0, .int .i64 0, .slice none 0 0] T)) fun e w' => e = .returned (.int .i64 1) ∧ Below w.heap.size w w' := by
  have hz : Below w.heap.size w (w.alloc (.cells #[.int .i64 0, .slice none 0 0, .slice none 0 0, .int .i64 0, .int .i64 0, .int .i64 0, .int .i64 0, .int .i64 0, .slice none 0 0] T)) := (Below.refl _ _).alloc (Nat.le_refl _) _
  refine (fixCheck_c (.slice none 0 0) _ [] [p0] _ DsAt.nil (p0_at w T) (fun j hj => ?_)).mono fun e w' ⟨h1, h2⟩ => ⟨by rw [h1]; rfl, hz.trans (h2.mono hz.size)⟩
  obtain rfl : j = 0 := by simpa using hj
  show p0.ok
  clear hj
  exact ⟨by decide, by decide, by decide⟩
theorem ps_nil (w : World) : PsAt w (.slice none 0 0) [] := ⟨none, 0, rfl, Nat.le_refl _, by decide, fun h => by simp at h⟩
theorem fixCheck_nil (w : World) : Calls Tryz.prog 26 #[.slice none 0 0, .slice none 0 0] w fun e w' => e = .returned (.int .i64 0) ∧ Below w.heap.size w w' :=
  (fixCheck_c (.slice none 0 0) (.slice none 0 0) [] [] w DsAt.nil (ps_nil w) (fun j hj => by simp at hj)).mono fun e w' ⟨h1, h2⟩ => ⟨by rw [h1]; rfl, h2⟩
end Go.Proofs.YtajooiainglpmaaGreat
