/-
  OPTIONS AND LISTS OF INTEGERS THAT COME IN.
  PLAIN LAWS of layer 19's choosing and parting. No program.
  label.Check, rank, and the reference's Check, domain, better, weight, walked.
  label.Choose and the reference's, walked.
-/
import Derived.Test.YtaekdgikgbdnnaaGreatKlin1
import Derived.Test.YtaekdgikgbdnnaaGreatKlib1
import Derived.Test.YtaekdgikgbdnnaaGreatKdom3
namespace Go.Proofs.YtaekdgikgbdnnaaGreat
open Go.RowKit Go.ChangeShapes Go.WideShapes Go.ChangeAt

theorem cellsOptO : Tryz.prog.cellsOf 28 = 4 := by kernel_rfl
set_option maxRecDepth 100000 in
theorem open_opt {H : Type} {enc : TypeId × Value → H} {w : World} {base : Nat} {sp : Nat → Bool} {held : Bool} {v : Value} {d : DataW H} {ps : List MemPlace}
    (hval : Value.okWide Tryz.prog w .any base 28 v) (h : DataW.Trod enc Tryz.prog w 0 sp held 28 v d ps) :
    ∃ sel ord br vw, ∃ ws : List Int, v = .agg #[.int .i64 sel, .int .i64 ord, .int .i64 br, vw] ∧ IsAt w vw ws ∧ ∀ z ∈ ws, -9223372036854775808 ≤ z ∧ z ≤ 9223372036854775807 := by
  obtain ⟨c0, c1, c2, c3, y0, y1, y2, y3, m, rfl, rfl, rfl, h0, h1, h2, h3⟩ := Joins.open_agg4 Tryz.underlying28 (by kernel_rfl) cellsOptO hval h
  obtain ⟨x0, e0, _, w0⟩ := DataW.trod_int Tryz.underlying3 h0
  obtain ⟨x1, e1, _, w1⟩ := DataW.trod_int Tryz.underlying3 h1
  obtain ⟨x2, e2, _, w2⟩ := DataW.trod_int Tryz.underlying3 h2
  obtain ⟨ws, i3, b3⟩ := open_isL h3
  simp at e0 e1 e2
  subst e0 e1 e2
  exact ⟨x0, x1, x2, c3, ws, rfl, i3, b3⟩
end Go.Proofs.YtaekdgikgbdnnaaGreat
namespace Go.Proofs.YtaekdgikgbdnnaaGreat

def domAt (ds : Ds) (v : Int) : List Rg := if v < 0 then [] else ds.getD v.toNat []
def labChk (sel ord br : Int) (n : Nat) : Int := if sel < 0 ∨ 4 < sel ∨ ord < 0 ∨ 1 < ord ∨ br < 0 ∨ 1 < br ∨ 64 < n then 190 else 0
def rankL (sel : Int) (ws : List Int) (d : List Rg) (i : Nat) : Int :=
  if sel = 1 then sizeL (norm d) else if sel = 2 then (endsL (norm d)).1 else if sel = 3 then -(endsL (norm d)).2.1 else if sel = 4 then ws.getD i 0 else 0
/-- which place is taken, of the first k -/
def chooseL (ds : Ds) (vars : List Int) (sel : Int) (ws : List Int) : Nat → Option Nat
  | 0 => none
  | k + 1 =>
    if sizeL (norm (domAt ds (vars.getD k 0))) < 2 then chooseL ds vars sel ws k
    else match chooseL ds vars sel ws k with
      | none => some k
      | some b => if rankL sel ws (domAt ds (vars.getD k 0)) k < rankL sel ws (domAt ds (vars.getD b 0)) b then some k else some b
theorem chooseL_lt (ds : Ds) (vars : List Int) (sel : Int) (ws : List Int) : ∀ (k b : Nat), chooseL ds vars sel ws k = some b → b < k
  | 0, b, h => by simp [chooseL] at h
  | k + 1, b, h => by
    have ih := chooseL_lt ds vars sel ws k
    unfold chooseL at h
    split at h
    · have := ih b h; omega
    · split at h
      · cases h; omega
      · rename_i b' hb
        have := ih b' hb
        split at h <;> cases h <;> omega
/-! ### parting -/
def cutAt (ord br lo hi : Int) : Int := if br = 1 then (lo + hi) / 2 else if ord = 1 then hi - 1 else lo
def splitL (d : List Rg) (ord br : Int) : List Rg × List Rg :=
  if sizeL (norm d) < 2 then ([], [])
  else
    let lo := (endsL (norm d)).1
    let hi := (endsL (norm d)).2.1
    let A := meetL d [(lo, cutAt ord br lo hi)]
    let B := minusL d [(lo, cutAt ord br lo hi)]
    if ord = 1 then (B, A) else (A, B)
theorem two_okT (d : List Rg) (h : ¬ sizeL (norm d) < 2) : okT d = true := by
  rw [okT_nil]
  by_cases hn : norm d = []
  · rw [hn] at h; simp [sizeL] at h
  · simp [hn]
theorem two_ends (d : List Rg) (h : ¬ sizeL (norm d) < 2) : (endsL (norm d)).1 < (endsL (norm d)).2.1 := by
  obtain ⟨a, b⟩ := ends_in d (two_okT d h)
  have h1 := (ends_mem d _ a).2.1
  rcases (show (endsL (norm d)).1 < (endsL (norm d)).2.1 ∨ (endsL (norm d)).1 = (endsL (norm d)).2.1 by omega) with h2 | h2
  · exact h2
  · exfalso
    have e : norm d = [((endsL (norm d)).1, (endsL (norm d)).1)] := by
      have hb := ends_bnd d
      refine normal_unique (norm_normal d) (show Normal _ from ⟨by dsimp only; omega, Int.le_refl _, by dsimp only; omega, trivial⟩) (fun n => ?_)
      rw [Bool.eq_iff_iff]
      constructor
      · intro hn
        have := ends_mem d n hn
        simp [memL]; omega
      · intro hn
        simp [memL] at hn
        have : n = (endsL (norm d)).1 := by omega
        rw [this]; exact a
    rw [e] at h; simp [sizeL] at h
theorem mem1 (a b n : Int) : memL [(a, b)] n = (decide (a ≤ n) && decide (n ≤ b)) := by simp [memL]
/-- what the law asks of the parts -/
theorem split_parts (d : List Rg) (ord br : Int) (h : ¬ sizeL (norm d) < 2) (ho : ord = 0 ∨ ord = 1) (hb : br = 0 ∨ br = 1) :
    (splitL d ord br).1 ≠ [] ∧ (splitL d ord br).2 ≠ [] ∧ meetL (splitL d ord br).1 (splitL d ord br).2 = [] ∧ joinL (splitL d ord br).1 (splitL d ord br).2 = norm d := by
  have hle := two_ends d h
  have hbd := ends_bnd d
  obtain ⟨e1, e2⟩ := ends_in d (two_okT d h)
  rw [memL_norm, Bool.and_eq_true] at e1 e2
  have hc : (endsL (norm d)).1 ≤ cutAt ord br (endsL (norm d)).1 (endsL (norm d)).2.1 ∧ cutAt ord br (endsL (norm d)).1 (endsL (norm d)).2.1 < (endsL (norm d)).2.1 := by
    unfold cutAt
    rcases ho with rfl | rfl <;> rcases hb with rfl | rfl <;> simp <;> omega
  unfold splitL
  rw [if_neg h]
  dsimp only
  generalize (endsL (norm d)).1 = lo at *
  generalize (endsL (norm d)).2.1 = hi at *
  generalize cutAt ord br lo hi = c at *
  have hA : memL (meetL d [(lo, c)]) lo = true := by unfold meetL; rw [canon_mem, mem1, e1.2]; simp; omega
  have hB : memL (minusL d [(lo, c)]) hi = true := by unfold minusL; rw [canon_mem, mem1, e2.2]; simp; omega
  have mA : ∀ n, -200 ≤ n → n ≤ 200 → memL (meetL d [(lo, c)]) n = (memL d n && memL [(lo, c)] n) := fun n h1 h2 => by unfold meetL; rw [canon_mem]; simp [h1, h2]
  have mB : ∀ n, -200 ≤ n → n ≤ 200 → memL (minusL d [(lo, c)]) n = (memL d n && !memL [(lo, c)] n) := fun n h1 h2 => by unfold minusL; rw [canon_mem]; simp [h1, h2]
  generalize meetL d [(lo, c)] = A at *
  generalize minusL d [(lo, c)] = B at *
  have hN : Normal ([] : List Rg) := trivial
  by_cases o1 : ord = 1
  · simp only [if_pos o1]
    refine ⟨mem_ne_nil hB, mem_ne_nil hA, ?_, ?_⟩
    · refine (is_canon hN (fun n h1 h2 => ?_)).symm
      rw [mA n h1 h2, mB n h1 h2, memL_nil]
      cases memL d n <;> cases memL [(lo, c)] n <;> rfl
    · refine canon_congr fun n h1 h2 => ?_
      rw [mA n h1 h2, mB n h1 h2]
      cases memL d n <;> cases memL [(lo, c)] n <;> rfl
  · simp only [if_neg o1]
    refine ⟨mem_ne_nil hA, mem_ne_nil hB, ?_, ?_⟩
    · refine (is_canon hN (fun n h1 h2 => ?_)).symm
      rw [mA n h1 h2, mB n h1 h2, memL_nil]
      cases memL d n <;> cases memL [(lo, c)] n <;> rfl
    · refine canon_congr fun n h1 h2 => ?_
      rw [mA n h1 h2, mB n h1 h2]
      cases memL d n <;> cases memL [(lo, c)] n <;> rfl
end Go.Proofs.YtaekdgikgbdnnaaGreat
namespace Go.Proofs.YtaekdgikgbdnnaaGreat
open Go.RowKit

theorem IsAt.shape' {w : World} {v : Value} {zs : List Int} (h : IsAt w v zs) : ∃ ao cap, v = .slice ao zs.length cap ∧ zs.length ≤ cap ∧ cap ≤ maxLen := SlAt.shape h
theorem IsAt.get' {w : World} {ao : Option Addr} {n cap : Nat} {zs : List Int} (h : IsAt w (.slice ao n cap) zs) (k : Nat) (hk : k < zs.length) :
    ∃ b off, ao = some ⟨b, off, none⟩ ∧ zs.length ≤ cap ∧ b < w.heap.size ∧ w.cell? ⟨b, off + k, none⟩ = some (.int .i64 zs[k]) := by
  obtain ⟨b, off, c', he, hc, hb, hx⟩ := IsAt.at h (by omega)
  simp only [Value.slice.injEq] at he
  obtain ⟨rfl, rfl, rfl⟩ := he
  exact ⟨b, off, rfl, hc, hb, hx k hk⟩
theorem boxZ (w : World) (a b c d : Value) (T : TypeId) : Below w.heap.size w (w.alloc (.cells #[a, b, c, d] T)) := (Below.refl _ _).alloc (Nat.le_refl _) _

set_option maxRecDepth 100000 in
set_option maxHeartbeats 1600000 in
theorem labCheck_c (sel ord br : Int) (aw : Option Addr) (n cw : Nat) (w : World) :
    Calls Tryz.prog 12 #[.agg #[.int .i64 sel, .int .i64 ord, .int .i64 br, .slice aw n cw]] w fun e w' => e = .returned (.int .i64 (labChk sel ord br n)) ∧ Below w.heap.size w w' := by
  have HZ := Lib.hid (boxZ w (.int .i64 sel) (.int .i64 ord) (.int .i64 br) (.slice aw n cw) 28)
  have fin : ∀ (h : sel < 0 ∨ 4 < sel ∨ ord < 0 ∨ 1 < ord ∨ br < 0 ∨ 1 < br ∨ 64 < n), labChk sel ord br n = 190 := fun h => by unfold labChk; rw [if_pos h]
  have HF := Lib.hid fin
  clear fin
  by_cases h1 : sel < 0
  · have HQ := Lib.hid (HF.out (.inl h1))
    go_enter Tryz.func12, Tryz.ntmps12
    go_wp2
    go_ret
    exact ⟨ret_int HQ.out.symm, HZ.out⟩
  by_cases h2 : 4 < sel
  · have HQ := Lib.hid (HF.out (.inr (.inl h2)))
    go_enter Tryz.func12, Tryz.ntmps12
    go_wp2
    go_ret
    exact ⟨ret_int HQ.out.symm, HZ.out⟩
  by_cases h3 : ord < 0
  · have HQ := Lib.hid (HF.out (.inr (.inr (.inl h3))))
    go_enter Tryz.func12, Tryz.ntmps12
    go_wp2
    go_ret
    exact ⟨ret_int HQ.out.symm, HZ.out⟩
  by_cases h4 : 1 < ord
  · have HQ := Lib.hid (HF.out (.inr (.inr (.inr (.inl h4)))))
    go_enter Tryz.func12, Tryz.ntmps12
    go_wp2
    go_ret
    exact ⟨ret_int HQ.out.symm, HZ.out⟩
  by_cases h5 : br < 0
  · have HQ := Lib.hid (HF.out (.inr (.inr (.inr (.inr (.inl h5))))))
    go_enter Tryz.func12, Tryz.ntmps12
    go_wp2
    go_ret
    exact ⟨ret_int HQ.out.symm, HZ.out⟩
  by_cases h6 : 1 < br
  · have HQ := Lib.hid (HF.out (.inr (.inr (.inr (.inr (.inr (.inl h6)))))))
    go_enter Tryz.func12, Tryz.ntmps12
    go_wp2
    go_ret
    exact ⟨ret_int HQ.out.symm, HZ.out⟩
  by_cases h7 : 64 < n
  · have HQ := Lib.hid (HF.out (.inr (.inr (.inr (.inr (.inr (.inr h7)))))))
    go_enter Tryz.func12, Tryz.ntmps12
    go_wp2
    go_ret
    exact ⟨ret_int HQ.out.symm, HZ.out⟩
  have HQ : Hid (labChk sel ord br n = 0) := by show _ = _; unfold labChk; rw [if_neg (by omega)]
  go_enter Tryz.func12, Tryz.ntmps12
  go_wp2
  go_ret
  exact ⟨ret_int HQ.out.symm, HZ.out⟩

set_option maxRecDepth 100000 in
theorem within19_any (n lo hi : Int) (w : World) : Calls Tryz.prog 25 #[.int .i64 n, .int .i64 lo, .int .i64 hi] w fun e w' => e = .returned (.bool (decide (lo ≤ n) && decide (n ≤ hi))) ∧ w = w' := by
  by_cases h1 : lo ≤ n
  · by_cases h2 : n ≤ hi
    · go_enter Tryz.func25, Tryz.ntmps25
      go_wp2
      go_ret
      exact ⟨ret_bool (by simp [h1, h2]), rfl⟩
    · go_enter Tryz.func25, Tryz.ntmps25
      go_wp2
      go_ret
      exact ⟨ret_bool (by simp [h2]), rfl⟩
  · go_enter Tryz.func25, Tryz.ntmps25
    go_wp2
    go_ret
    exact ⟨ret_bool (by simp; omega), rfl⟩

set_option maxRecDepth 100000 in
set_option maxHeartbeats 1600000 in
theorem refLabCheck_c (sel ord br : Int) (aw : Option Addr) (n cw : Nat) (w : World) :
    Calls Tryz.prog 11 #[.agg #[.int .i64 sel, .int .i64 ord, .int .i64 br, .slice aw n cw]] w fun e w' => e = .returned (.int .i64 (labChk sel ord br n)) ∧ Below w.heap.size w w' := by
  have HZ := Lib.hid (boxZ w (.int .i64 sel) (.int .i64 ord) (.int .i64 br) (.slice aw n cw) 28)
  have hq : ∃ b1 b2 b3 b4 : Bool, (decide ((0 : Int) ≤ sel) && decide (sel ≤ 4)) = b1 ∧ (decide ((0 : Int) ≤ ord) && decide (ord ≤ 1)) = b2 ∧ (decide ((0 : Int) ≤ br) && decide (br ≤ 1)) = b3 ∧ decide (64 < n) = b4 ∧ labChk sel ord br n = if b1 = true ∧ b2 = true ∧ b3 = true ∧ b4 = false then 0 else 190 := by
    refine ⟨_, _, _, _, rfl, rfl, rfl, rfl, ?_⟩
    unfold labChk
    by_cases h : sel < 0 ∨ 4 < sel ∨ ord < 0 ∨ 1 < ord ∨ br < 0 ∨ 1 < br ∨ 64 < n
    · rw [if_pos h, if_neg]
      simp; omega
    · rw [if_neg h, if_pos]
      simp; omega
  obtain ⟨b1, b2, b3, b4, e1, e2, e3, e4, e5⟩ := hq
  have CW : Hid (∀ W, Calls Tryz.prog 25 #[.int .i64 sel, .int .i64 0, .int .i64 4] W fun e w' => e = .returned (.bool b1) ∧ W = w') := fun W => by have := within19_any sel 0 4 W; rwa [e1] at this
  have CO : Hid (∀ W, Calls Tryz.prog 25 #[.int .i64 ord, .int .i64 0, .int .i64 1] W fun e w' => e = .returned (.bool b2) ∧ W = w') := fun W => by have := within19_any ord 0 1 W; rwa [e2] at this
  have CB : Hid (∀ W, Calls Tryz.prog 25 #[.int .i64 br, .int .i64 0, .int .i64 1] W fun e w' => e = .returned (.bool b3) ∧ W = w') := fun W => by have := within19_any br 0 1 W; rwa [e3] at this
  rw [e5]
  clear e1 e2 e3 e5
  by_cases h4 : 64 < n
  · obtain rfl : b4 = true := by rw [← e4]; simpa using h4
    clear e4
    cases b1 <;> cases b2 <;> cases b3
    all_goals
      go_enter Tryz.func11, Tryz.ntmps11
      go_wp2_with (first
        | (go_at_call 25; (with_reducible refine (CW.out _).mono ?_); rintro e w' ⟨rfl, rfl⟩)
        | (go_at_call 25; (with_reducible refine (CO.out _).mono ?_); rintro e w' ⟨rfl, rfl⟩)
        | (go_at_call 25; (with_reducible refine (CB.out _).mono ?_); rintro e w' ⟨rfl, rfl⟩))
      go_ret
      exact ⟨ret_int (by simp), HZ.out⟩
  · obtain rfl : b4 = false := by rw [← e4]; simpa using h4
    clear e4
    cases b1 <;> cases b2 <;> cases b3
    all_goals
      go_enter Tryz.func11, Tryz.ntmps11
      go_wp2_with (first
        | (go_at_call 25; (with_reducible refine (CW.out _).mono ?_); rintro e w' ⟨rfl, rfl⟩)
        | (go_at_call 25; (with_reducible refine (CO.out _).mono ?_); rintro e w' ⟨rfl, rfl⟩)
        | (go_at_call 25; (with_reducible refine (CB.out _).mono ?_); rintro e w' ⟨rfl, rfl⟩))
      go_ret
      exact ⟨ret_int (by simp), HZ.out⟩

set_option maxRecDepth 100000 in
set_option maxHeartbeats 1600000 in
theorem rank_c (vd vw : Value) (sel ord br : Int) (i : Nat) (d : List Rg) (ws : List Int) (w : World) (hd : RgAt w vd d) (hl : d.length ≤ 4096) (hw : IsAt w vw ws) (_hi : i ≤ 4096) (hs : sel = 0 ∨ sel = 1 ∨ sel = 2 ∨ sel = 3 ∨ sel = 4) :
    Calls Tryz.prog 69 #[vd, .int .i64 i, .agg #[.int .i64 sel, .int .i64 ord, .int .i64 br, vw]] w fun e w' => e = .returned (.int .i64 (rankL sel ws d i)) ∧ Below w.heap.size w w' := by
  obtain ⟨ao, cap, rfl, _⟩ := hd.shape
  obtain ⟨aw, cw, rfl, _⟩ := hw.shape'
  have HZ := Lib.hid (boxZ w (.int .i64 sel) (.int .i64 ord) (.int .i64 br) (.slice aw ws.length cw) 28)
  have HB := Lib.hid (BoxL.mk' w #[.int .i64 sel, .int .i64 ord, .int .i64 br, .slice aw ws.length cw] 28)
  have CE : Hid (∀ W, Below w.heap.size w W → Calls Tryz.prog 45 #[.slice ao d.length cap] W fun e w' => e = .returned (.tuple #[.int .i64 (endsL (norm d)).1, .int .i64 (endsL (norm d)).2.1, .bool (endsL (norm d)).2.2]) ∧ Below W.heap.size W w') := fun W h => ends_c _ d W (hd.below h) hl
  have CS : Hid (∀ W, Below w.heap.size w W → Calls Tryz.prog 68 #[.slice ao d.length cap] W fun e w' => e = .returned (.int .i64 (sizeL (norm d))) ∧ Below W.heap.size W w') := fun W h => size_c _ d W (hd.below h) hl
  obtain ⟨b1, b2, b3, b4⟩ := ends_bnd d
  have HW := Lib.hid hw
  clear hd hw
  unfold rankL
  generalize (endsL (norm d)).1 = lo at *
  generalize (endsL (norm d)).2.1 = hi at *
  generalize (endsL (norm d)).2.2 = ok at *
  generalize sizeL (norm d) = sz at *
  have CE1 := Lib.hid (CE.out _ HZ.out)
  clear CE
  rcases hs with rfl | rfl | rfl | rfl | rfl
  · go_enter Tryz.func69, Tryz.ntmps69
    go_wp2_with (go_at_call 45; (with_reducible refine CE1.out.mono ?_); rintro e W1 ⟨rfl, bb⟩; have B1 := Lib.hid (HZ.out.trans (bb.mono HZ.out.size)); obtain ⟨l0, _⟩ := (HB.out.below bb (by simp)).get 0 rfl; clear bb)
    go_ret
    exact ⟨rfl, B1.out⟩
  · go_enter Tryz.func69, Tryz.ntmps69
    go_wp2_with (first
      | (go_at_call 45; (with_reducible refine CE1.out.mono ?_); rintro e W1 ⟨rfl, bb⟩; have B1 := Lib.hid (HZ.out.trans (bb.mono HZ.out.size)); obtain ⟨l0, _⟩ := (HB.out.below bb (by simp)).get 0 rfl; clear bb)
      | (go_at_call 68; (with_reducible refine (CS.out _ B1.out).mono ?_); rintro e W2 ⟨rfl, bb⟩; have B2 := Lib.hid (B1.out.trans (bb.mono B1.out.size)); clear bb))
    go_ret
    exact ⟨rfl, B2.out⟩
  · go_enter Tryz.func69, Tryz.ntmps69
    go_wp2_with (go_at_call 45; (with_reducible refine CE1.out.mono ?_); rintro e W1 ⟨rfl, bb⟩; have B1 := Lib.hid (HZ.out.trans (bb.mono HZ.out.size)); obtain ⟨l0, _⟩ := (HB.out.below bb (by simp)).get 0 rfl; clear bb)
    go_ret
    exact ⟨rfl, B1.out⟩
  · go_enter Tryz.func69, Tryz.ntmps69
    go_wp2_with (go_at_call 45; (with_reducible refine CE1.out.mono ?_); rintro e W1 ⟨rfl, bb⟩; have B1 := Lib.hid (HZ.out.trans (bb.mono HZ.out.size)); obtain ⟨l0, _⟩ := (HB.out.below bb (by simp)).get 0 rfl; clear bb)
    go_ret
    exact ⟨rfl, B1.out⟩
  · by_cases hlt : i < ws.length
    · obtain ⟨b, off, rfl, q1, q2, x0⟩ := HW.out.get' i hlt
      have hg : Hid (ws.getD i 0 = ws[i]) := by show _ = _; rw [List.getD_eq_getElem?_getD, List.getElem?_eq_getElem hlt]; rfl
      have j1 : (i : Int) < ws.length := by omega
      generalize ws[i] = x at *
      generalize ws.getD i 0 = y at *
      go_enter Tryz.func69, Tryz.ntmps69
      go_wp2_with (go_at_call 45; (with_reducible refine CE1.out.mono ?_); rintro e W1 ⟨rfl, bb⟩; have B1 := Lib.hid (HZ.out.trans (bb.mono HZ.out.size)); obtain ⟨l0, _⟩ := (HB.out.below bb (by simp)).get 0 rfl; obtain ⟨l3, _⟩ := (HB.out.below bb (by simp)).get 3 rfl; have x1 := (B1.out.cell (p := ⟨b, off + i, none⟩) q2).trans x0; clear bb)
      go_ret
      exact ⟨ret_int (by rw [hg.out]), B1.out⟩
    · have hg : Hid (ws.getD i 0 = 0) := by show _ = _; rw [List.getD_eq_getElem?_getD, List.getElem?_eq_none (by omega)]; rfl
      generalize ws.getD i 0 = y at *
      go_enter Tryz.func69, Tryz.ntmps69
      go_wp2_with (go_at_call 45; (with_reducible refine CE1.out.mono ?_); rintro e W1 ⟨rfl, bb⟩; have B1 := Lib.hid (HZ.out.trans (bb.mono HZ.out.size)); obtain ⟨l0, _⟩ := (HB.out.below bb (by simp)).get 0 rfl; obtain ⟨l3, _⟩ := (HB.out.below bb (by simp)).get 3 rfl; clear bb)
      go_ret
      exact ⟨ret_int (by rw [hg.out]), B1.out⟩

end Go.Proofs.YtaekdgikgbdnnaaGreat
namespace Go.Proofs.YtaekdgikgbdnnaaGreat
open Go.RowKit

def bestI (o : Option Nat) : Int := match o with
  | none => -1
  | some b => b
theorem choose_skip (ds : Ds) (vars : List Int) (sel : Int) (ws : List Int) (k : Nat) (h : sizeL (norm (domAt ds (vars.getD k 0))) < 2) : chooseL ds vars sel ws (k + 1) = chooseL ds vars sel ws k := by
  rw [chooseL, if_pos h]
theorem choose_new (ds : Ds) (vars : List Int) (sel : Int) (ws : List Int) (k : Nat) (h : ¬ sizeL (norm (domAt ds (vars.getD k 0))) < 2) (hn : chooseL ds vars sel ws k = none) : chooseL ds vars sel ws (k + 1) = some k := by
  rw [chooseL, if_neg h, hn]
theorem choose_old (ds : Ds) (vars : List Int) (sel : Int) (ws : List Int) (k b : Nat) (h : ¬ sizeL (norm (domAt ds (vars.getD k 0))) < 2) (hn : chooseL ds vars sel ws k = some b) :
    chooseL ds vars sel ws (k + 1) = if rankL sel ws (domAt ds (vars.getD k 0)) k < rankL sel ws (domAt ds (vars.getD b 0)) b then some k else some b := by
  rw [chooseL, if_neg h, hn]
theorem norm_nil : norm ([] : List Rg) = [] := norm_of_normal (show Normal [] from trivial)
set_option maxRecDepth 100000 in
set_option maxHeartbeats 3200000 in
theorem choose_c (vds vv vw : Value) (sel ord br : Int) (ds : Ds) (vars ws : List Int) (w : World) (hd : DsAt w vds ds) (hv : IsAt w vv vars) (hw : IsAt w vw ws) (hdl : ∀ d ∈ ds, d.length ≤ 4096) (hs : sel = 0 ∨ sel = 1 ∨ sel = 2 ∨ sel = 3 ∨ sel = 4) (hvl : vars.length ≤ 4096) :
    Calls Tryz.prog 44 #[vds, vv, .agg #[.int .i64 sel, .int .i64 ord, .int .i64 br, vw]] w fun e w' => e = .returned (.int .i64 (bestI (chooseL ds vars sel ws vars.length))) ∧ Below w.heap.size w w' := by
  obtain ⟨a0, c0, rfl, _⟩ := hd.shape
  obtain ⟨a1, c1, rfl, _⟩ := hv.shape'
  obtain ⟨a2, c2, rfl, _⟩ := hw.shape'
  have HZ := Lib.hid (boxZ w (.int .i64 sel) (.int .i64 ord) (.int .i64 br) (.slice a2 ws.length c2) 28)
  have HB := Lib.hid (BoxL.mk' w #[.int .i64 sel, .int .i64 ord, .int .i64 br, .slice a2 ws.length c2] 28)
  have HD := Lib.hid hd
  have HV := Lib.hid hv
  have HDL := Lib.hid hdl
  have CR := Lib.hid (fun vd (k : Nat) d W (h : Below w.heap.size w W) (h1 : RgAt W vd d) (h2 : d.length ≤ 4096) (h3 : k ≤ 4096) => rank_c vd _ sel ord br k d ws W h1 h2 (hw.below h) h3 hs)
  clear hd hv hw hdl hs
  go_enter Tryz.func44, Tryz.ntmps44
  go_wp2
  generalize hW0 : (w.alloc (.cells #[.int .i64 sel, .int .i64 ord, .int .i64 br, .slice a2 ws.length c2] 28)) = W0 at *
  clear hW0
  go_loopw [7, 8, 14] (fun b l s wr => ∃ k : Nat, ∃ z : Int, k ≤ vars.length ∧ s = .int .i64 k ∧ b = .int .i64 (bestI (chooseL ds vars sel ws k)) ∧ l = .int .i64 z ∧ Hid (∀ j, chooseL ds vars sel ws k = some j → z = rankL sel ws (domAt ds (vars.getD j 0)) j) ∧ Hid (Below w.heap.size w wr) ∧ Hid (BoxL wr w.heap.size [.int .i64 sel, .int .i64 ord, .int .i64 br, .slice a2 ws.length c2])) (fun _ _ s _ => vars.length - (intOf s).toNat)
  case atStart => exact ⟨0, 0, by omega, rfl, rfl, rfl, fun j h => by simp [chooseL] at h, HZ, HB⟩
  case round =>
    clear HZ HB
    obtain ⟨k, z, hk, rfl, rfl, rfl, HR, HB, HL⟩ := hrel
    have hbl := HL.out.lt (by simp)
    by_cases hlt : k < vars.length
    · obtain ⟨b1, o1, rfl, q1, q2, x1⟩ := HV.out.get' k hlt
      have j1 : (k : Int) < vars.length := by omega
      rw [← HB.out.cell (p := ⟨b1, o1 + k, none⟩) q2] at x1
      have hgv : vars.getD k 0 = vars[k] := by rw [List.getD_eq_getElem?_getD, List.getElem?_eq_getElem hlt]; rfl
      have HS := Lib.hid (choose_skip ds vars sel ws k)
      have HN := Lib.hid (choose_new ds vars sel ws k)
      have HO := Lib.hid (choose_old ds vars sel ws k)
      rw [hgv] at HS HN HO
      have HGV := Lib.hid hgv
      clear hgv
      generalize vars[k] = v at *
      by_cases h1 : v < 0
      · have hsk : Hid (chooseL ds vars sel ws (k + 1) = chooseL ds vars sel ws k) := HS.out (by unfold domAt; rw [if_pos h1, norm_nil]; simp [sizeL])
        go_wp2
        exact ⟨⟨k + 1, z, by omega, by go_num, by rw [hsk.out], rfl, fun j h => HR.out j (by rw [← hsk.out]; exact h), HB, HL⟩, by simp [intOf]; omega⟩
      obtain ⟨n, rfl⟩ := Int.eq_ofNat_of_zero_le (show 0 ≤ v by omega)
      by_cases h2 : n < ds.length
      case neg =>
        have hsk : Hid (chooseL ds vars sel ws (k + 1) = chooseL ds vars sel ws k) := HS.out (by unfold domAt; rw [if_neg h1, List.getD_eq_getElem?_getD, List.getElem?_eq_none (by simp; omega)]; simp [norm_nil, sizeL])
        have h2' : (ds.length : Int) ≤ n := by omega
        go_wp2
        exact ⟨⟨k + 1, z, by omega, by go_num, by rw [hsk.out], rfl, fun j h => HR.out j (by rw [← hsk.out]; exact h), HB, HL⟩, by simp [intOf]; omega⟩
      case pos =>
        obtain ⟨b2, o2, a3, c3, rfl, q3, q4, _, x2, hr2⟩ := HD.out.get n h2
        have j2 : (n : Int) < ds.length := by omega
        rw [← HB.out.cell (p := ⟨b2, o2 + n, none⟩) q4] at x2
        have hda : domAt ds n = ds[n] := by unfold domAt; rw [if_neg h1, Int.toNat_natCast, List.getD_eq_getElem?_getD, List.getElem?_eq_getElem h2]; rfl
        rw [hda] at HS HN HO
        have HDA : Hid (domAt ds (vars.getD k 0) = ds[n]) := by show _ = _; rw [HGV.out]; exact hda
        have hl := HDL.out _ (List.getElem_mem h2)
        have HR2 := Lib.hid (hr2.below HB.out)
        clear hr2 hda
        generalize ds[n] = d at *
        have CS := Lib.hid (size_c _ d wr HR2.out hl)
        by_cases h3 : sizeL (norm d) < 2
        · have hsk := Lib.hid (HS.out h3)
          generalize sizeL (norm d) = sz at *
          go_wp2_with (go_at_call 68; (with_reducible refine CS.out.mono ?_); rintro e W2 ⟨rfl, bb⟩; have Q2 := Lib.hid bb; clear bb)
          exact ⟨⟨k + 1, z, by omega, by go_num, by rw [hsk.out], rfl, fun j h => HR.out j (by rw [← hsk.out]; exact h), Lib.hid (HB.out.trans (Q2.out.mono HB.out.size)), Lib.hid (HL.out.below Q2.out hbl)⟩, by simp [intOf]; omega⟩
        · have HN2 := Lib.hid (HN.out h3)
          have HO2 := Lib.hid (fun b => HO.out b h3)
          have hk4 : k ≤ 4096 := by omega
          clear HS HN HO
          generalize sizeL (norm d) = sz at *
          obtain ⟨rk, hrk⟩ : ∃ rk, rk = rankL sel ws d k := ⟨_, rfl⟩
          have HRK := Lib.hid hrk
          have CR2 : Hid (∀ W, Below wr.heap.size wr W → Calls Tryz.prog 69 #[.slice a3 d.length c3, .int .i64 k, .agg #[.int .i64 sel, .int .i64 ord, .int .i64 br, .slice a2 ws.length c2]] W fun e w' => e = .returned (.int .i64 rk) ∧ Below W.heap.size W w') := fun W h => by
            rw [hrk]
            exact CR.out _ k d W (HB.out.trans (h.mono HB.out.size)) (HR2.out.below h) hl hk4
          clear hrk
          go_wp2_with (go_at_call 68; (with_reducible refine CS.out.mono ?_); rintro e W2 ⟨rfl, bb⟩; have Q2 := Lib.hid bb; clear bb)
          have k1 := qb_cell ((Q2.out.cell (p := ⟨b2, o2 + n, none⟩) (World.block_lt_of_cell? wr _ x2)).trans x2)
          have k2 := qb_cell (((HL.out.below Q2.out hbl).get 0 rfl).1)
          have k3 := qb_cell (((HL.out.below Q2.out hbl).get 1 rfl).1)
          have k4 := qb_cell (((HL.out.below Q2.out hbl).get 2 rfl).1)
          have k5 := qb_cell (((HL.out.below Q2.out hbl).get 3 rfl).1)
          have CR3 : Hid (∀ g : QG W2, Calls Tryz.prog 69 #[.slice a3 d.length c3, .int .i64 k, .agg #[.int .i64 sel, .int .i64 ord, .int .i64 br, .slice a2 ws.length c2]] g.1 fun e w' => e = .returned (.int .i64 rk) ∧ Below g.1.heap.size g.1 w') := fun g => CR2.out g.1 (Q2.out.trans (g.2.mono Q2.out.size))
          refine wp_region_below (by kernel_rfl) (by kernel_rfl) ?_
          repeat (go_big_quiet_step ((go_at_call 69; exact qb_call _ (CR3.out _))))
          refine wpQuiet_nil ?_
          intro w1 hw1
          have Q3 := Lib.hid (Q2.out.trans (hw1.below.mono Q2.out.size))
          clear k1 k2 k3 k4 k5 hw1
          cases hch : chooseL ds vars sel ws k with
          | none =>
            have HC := Lib.hid (HN2.out hch)
            clear hch
            rw [show bestI none = -1 from rfl]
            go_wp2
            refine ⟨⟨k + 1, rk, by omega, by go_num, by rw [HC.out]; rfl, rfl, fun j h => ?_, Lib.hid (HB.out.trans (Q3.out.mono HB.out.size)), Lib.hid (HL.out.below Q3.out hbl)⟩, by simp [intOf]; omega⟩
            rw [HC.out] at h; cases h
            rw [HDA.out]; exact HRK.out
          | some b =>
            have hc := HO2.out b hch
            rw [← HRK.out, ← HR.out b hch] at hc
            have hb := chooseL_lt ds vars sel ws k b hch
            have HZ := Lib.hid (HR.out b hch)
            rw [show bestI (some b) = (b : Int) from rfl]
            have hb4 : (b : Int) ≤ 4096 := by omega
            clear hch
            by_cases hz : rk < z
            · rw [if_pos hz] at hc
              have HC := Lib.hid hc
              clear hc
              go_wp2
              refine ⟨⟨k + 1, rk, by omega, by go_num, by rw [HC.out]; rfl, rfl, fun j h => ?_, Lib.hid (HB.out.trans (Q3.out.mono HB.out.size)), Lib.hid (HL.out.below Q3.out hbl)⟩, by simp [intOf]; omega⟩
              rw [HC.out] at h; cases h
              rw [HDA.out]; exact HRK.out
            · rw [if_neg hz] at hc
              have HC := Lib.hid hc
              clear hc
              go_wp2
              refine ⟨⟨k + 1, z, by omega, by go_num, by rw [HC.out]; rfl, rfl, fun j h => ?_, Lib.hid (HB.out.trans (Q3.out.mono HB.out.size)), Lib.hid (HL.out.below Q3.out hbl)⟩, by simp [intOf]; omega⟩
              rw [HC.out] at h; cases h
              exact HZ.out
    · obtain rfl : k = vars.length := by omega
      go_wp2
      go_ret
      exact ⟨rfl, HB.out⟩

end Go.Proofs.YtaekdgikgbdnnaaGreat
