/-
  coneyref08.bind, walked.
  coneyref08.reach: what it holds on to, in plain Lean.
  coneyref08.reach, walked.
  coneyref08.reach at whatever term, walked.
  coneyref07.Shift by 1000, walked (printed by genshift.py out of Nu2's text).
  coneyref08.Unified: what it is told of, in plain Lean.
  The law IndexKeeps: what its loop tells, in plain Lean.
-/
import Derived.Test.YtmffobadnmkpbaaKidx4
import Derived.Test.YtmffobadnmkpbaaKtm2
import Derived.Test.YtmffobadnmkpbaaKtm1
import Derived.Test.YtmffobadnmkpbaaKtm4
import Derived.IntWalk
import Derived.Test.YtmffobadnmkpbaaKidx2
namespace Go.Proofs.Ytmffobadnmkpbaa
open Go.RowKit

theorem Try.infoBd : (Try.prog.info? 105).map (fun i => (i.zero, i.size, i.bytes)) = some (some (.agg #[.int .i64 0, .int .i64 0, .int .i64 0, .string ByteArray.empty, .slice none 0 0]), 5, 64) := by kernel_rfl
theorem own_madeB (w : World) : (w.alloc (.cells #[] 105)).ownsRow w.heap.size 105 5 (.slice (some ⟨w.heap.size, 0, none⟩) 0 0) 0 [] :=
  World.ownsRow_made (base := w.heap.size) (size := 5) (e := 105) w #[] 0 (by simp) (by decide) rfl
theorem one5b {n : Int} {t : Tm} {a : Value} (h : a.oneCell' = true) : ∀ u ∈ (#[.int .i64 n, .int .i64 t.kind, .int .i64 t.num, .string t.name, a] : Array Value).toList, u.oneCell' = true := by
  intro u hu; simp at hu; rcases hu with rfl | rfl | rfl | rfl | rfl <;> first | rfl | exact h
theorem bdCs_one {w : World} {L : List (Int × Tm × Value)} (h : ∀ x ∈ L, TmAt (fun _ => True) w x.2.1 x.2.2) : ∀ u ∈ bdCs L, u.oneCell' = true := by
  intro u hu
  unfold bdCs at hu
  obtain ⟨x, hx, hu⟩ := List.mem_flatMap.1 hu
  obtain ⟨ao, cap, e, _⟩ := (h x hx).shape
  simp only [bdC, List.mem_cons, List.not_mem_nil, or_false] at hu
  rcases hu with rfl | rfl | rfl | rfl | rfl <;> first | rfl | (rw [e]; rfl)
/-- what bind hands back -/
def RetBd (L : List (Int × Tm × Value)) (w : World) (e : Ending) (w' : World) : Prop := ∃ ao cap, e = .returned (.slice ao L.length cap) ∧ BsAt w' (.slice ao L.length cap) L ∧ Below w.heap.size w w'
set_option maxRecDepth 100000 in
set_option maxHeartbeats 1600000 in
theorem bind_c (v : Value) (L : List (Int × Tm × Value)) (n : Int) (t : Tm) (a : Value) (w : World) (h : BsAt w v L) (hl : L.length ≤ 1000000) (ht : TmAt (fun _ => True) w t a) :
    Calls Try.prog 116 #[v, .int .i64 n, tmV t a] w (RetBd (L ++ [(n, t, a)]) w) := by
  obtain ⟨ao, cap, rfl, _⟩ := h.shape
  obtain ⟨ta, tc, rfl, _⟩ := ht.shape
  obtain ⟨i0, hi, hz0, hz1, hz2⟩ := info_parts Try.infoBd
  obtain ⟨WB, hWB⟩ : ∃ WB, WB = w.alloc (.cells #[.int .i64 t.kind, .int .i64 t.num, .string t.name, .slice ta t.args.length tc] 24) := ⟨_, rfl⟩
  obtain ⟨W0, hW0⟩ : ∃ W0, W0 = WB.alloc (.cells #[] 105) := ⟨_, rfl⟩
  have hsB : WB.heap.size = w.heap.size + 1 := by rw [hWB]; simp
  have BB : Hid (Below w.heap.size w WB) := by rw [hWB]; exact (Below.refl _ _).alloc (Nat.le_refl _) _
  have XB : BoxL WB w.heap.size [.int .i64 t.kind, .int .i64 t.num, .string t.name, .slice ta t.args.length tc] := by
    rw [hWB]; exact BoxL.mk' w #[.int .i64 t.kind, .int .i64 t.num, .string t.name, .slice ta t.args.length tc] 24
  have B0 : Hid (Below (w.heap.size + 1) WB W0) := by rw [hW0]; exact (Below.refl _ _).alloc (by omega) _
  have hs0 : W0.heap.size = w.heap.size + 2 := by rw [hW0]; simp [hsB]
  have R0 : Hid (W0.ownsRow (w.heap.size + 1) 105 5 (.slice (some ⟨w.heap.size + 1, 0, none⟩) 0 0) 0 []) := by
    have h := own_madeB WB
    rw [← hW0, hsB] at h; exact h
  have X0 : Hid (BoxL W0 w.heap.size [.int .i64 t.kind, .int .i64 t.num, .string t.name, .slice ta t.args.length tc]) := XB.below B0.out (by omega)
  have BT : Hid (Below w.heap.size w W0) := BB.out.trans (B0.out.mono (by omega))
  have S0 : Hid (SlAt W0 5 (.slice ao L.length cap) L.length (bdCs L)) := h.sl.below BT.out
  have O0 : Hid (∀ u ∈ bdCs L, u.oneCell' = true) := bdCs_one h.tms
  have HL := Lib.hid h
  have HT := Lib.hid ht
  have HWB := Lib.hid hWB
  have HW0 := Lib.hid hW0
  have hb0 : w.heap.size + 1 ≤ W0.heap.size := by omega
  unfold tmV
  clear h ht hWB hW0 XB
  go_enter Try.func116, Try.ntmps116
  go_upto_region 2 with fail
  rw [← HWB.out, ← HW0.out]
  clear HWB HW0
  go_upto_region 3 with (at_builtin; refine wpList_append_slX rfl (.tmp 9) (.tmp 10) 99 rfl (w.heap.size + 1) 105 i0 (.agg #[.int .i64 0, .int .i64 0, .int .i64 0, .string ByteArray.empty, .slice none 0 0]) 5 64 Try.underlying99 hi hz0 hz1 hz2 rfl (by decide) _ 0 [] rfl R0.out _ L.length (bdCs L) rfl S0.out O0.out ⟨by omega, by omega⟩ hb0 ?_; intro v3 W3 ho3 hb3 hk3 hl3; have O3 := Lib.hid ho3; have B3 := Lib.hid hb3; clear ho3 hb3 hk3 hl3)
  have X3 := Lib.hid (X0.out.below B3.out (by omega))
  obtain ⟨x0, _⟩ := X3.out.get 0 rfl
  obtain ⟨x1, _⟩ := X3.out.get 1 rfl
  obtain ⟨x2, _⟩ := X3.out.get 2 rfl
  obtain ⟨x3, _⟩ := X3.out.get 3 rfl
  have O3' : Hid (W3.ownsRow (w.heap.size + 1) 105 5 v3 L.length (bdCs L)) := by show World.ownsRow _ _ _ _ _ _ _; have := O3.out; simpa using this
  obtain ⟨o3, c3, rfl, _⟩ := (SlAt.of_own O3'.out).shape
  have hb3' : w.heap.size + 1 ≤ W3.heap.size := Nat.le_trans hb0 B3.out.size
  clear O3
  go_wp2_with (at_builtin; refine wpList_appendX rfl (.tmp 12) (.tmp 16) 99 rfl (w.heap.size + 1) 105 i0 (.agg #[.int .i64 0, .int .i64 0, .int .i64 0, .string ByteArray.empty, .slice none 0 0]) 5 64 Try.underlying99 hi hz0 hz1 hz2 rfl (by decide) _ L.length (bdCs L) rfl O3'.out #[.int .i64 n, .int .i64 t.kind, .int .i64 t.num, .string t.name, .slice ta t.args.length tc] _ rfl rfl rfl (one5b rfl) ⟨by omega, by omega⟩ hb3' ?_; intro g cap W5 ho5 hb5 hk5 hl5; have O5 := Lib.hid ho5; have B5 := Lib.hid hb5; clear ho5 hb5 hk5 hl5)
  go_ret
  have hbel : Below w.heap.size w W5 := BT.out.trans ((B3.out.mono (by omega)).trans (B5.out.mono (by omega)))
  refine ⟨_, _, by rw [List.length_append]; rfl, ⟨?_, fun x hx => ?_⟩, hbel⟩
  · have h5 := SlAt.of_own O5.out
    rw [bdCs_snoc, List.length_append]; exact h5
  · rcases List.mem_append.1 hx with hx | hx
    · exact (HL.out.tms x hx).later hbel
    · rw [List.mem_singleton] at hx; subst hx; exact HT.out.later hbel
end Go.Proofs.Ytmffobadnmkpbaa
namespace Go.Proofs.Ytmffobadnmkpbaa
open Go.RowKit

/-- the bindings of variables that were not met -/
def freeB (L : List (Int × Tm × Value)) (M : List Int) : Nat := (L.filter fun x => !decide (x.1 ∈ M)).length
theorem freeB_le {L : List (Int × Tm × Value)} {M M' : List Int} (h : ∀ x ∈ M, x ∈ M') : freeB L M' ≤ freeB L M := by
  unfold freeB
  induction L with
  | nil => simp
  | cons a L ih =>
    simp only [List.filter_cons]
    by_cases h1 : a.1 ∈ M
    · have h2 := h _ h1
      simp [h1, h2]; exact ih
    · by_cases h2 : a.1 ∈ M'
      · simp [h1, h2]; exact Nat.le_succ_of_le ih
      · simp [h1, h2]; exact ih
theorem freeB_lt {L : List (Int × Tm × Value)} {M : List Int} {n : Int} (hn : n ∉ M) {x : Int × Tm × Value} (hx : x ∈ L) (he : x.1 = n) : freeB L (M ++ [n]) < freeB L M := by
  induction L with
  | nil => cases hx
  | cons a L ih =>
    have hle : freeB L (M ++ [n]) ≤ freeB L M := freeB_le fun y hy => List.mem_append_left _ hy
    unfold freeB at *
    simp only [List.filter_cons]
    rcases List.mem_cons.1 hx with rfl | hx
    · simp only [he]
      simp [hn]
      exact Nat.lt_succ_of_le (by simpa using hle)
    · have := ih hx
      by_cases h1 : a.1 ∈ M
      · simp [h1] at this ⊢; exact this
      · by_cases h2 : a.1 = n
        · simp [h2, hn] at this ⊢; omega
        · simp [h1, h2] at this ⊢; exact this
/-- variables' numbers, each once -/
structure MetOk (M : List Int) : Prop where
  nd : M.Nodup
  bd : ∀ x ∈ M, 0 ≤ x ∧ x < 6000
theorem nodup_le : ∀ (k : Nat) (M : List Int), M.Nodup → (∀ x ∈ M, 0 ≤ x ∧ x < k) → M.length ≤ k := by
  intro k
  induction k with
  | zero =>
    intro M _ h
    cases M with
    | nil => simp
    | cons a M => have := h a (by simp); omega
  | succ k ih =>
    intro M hn h
    have h1 : (M.erase (k : Int)).length ≤ k := ih _ (hn.erase _) fun x hx => by
      have h2 := h x (List.mem_of_mem_erase hx)
      have h3 : x ≠ (k : Int) := fun e => by subst e; exact (List.Nodup.not_mem_erase hn) hx
      omega
    have h5 : M.length ≤ (M.erase (k : Int)).length + 1 := by
      by_cases hm : (k : Int) ∈ M
      · rw [List.length_erase_of_mem hm]; omega
      · rw [List.erase_of_not_mem hm]; omega
    omega
theorem MetOk.len {M : List Int} (h : MetOk M) : M.length ≤ 6000 := nodup_le 6000 M h.nd h.bd
theorem MetOk.push {M : List Int} (h : MetOk M) {n : Int} (hn : n ∉ M) (h0 : 0 ≤ n ∧ n < 6000) : MetOk (M ++ [n]) := by
  refine ⟨List.nodup_append.2 ⟨h.nd, by simp, fun x hx y hy => ?_⟩, fun x hx => ?_⟩
  · rw [List.mem_singleton] at hy; subst hy; exact fun e => hn (e ▸ hx)
  · rcases List.mem_append.1 hx with hx | hx
    · exact h.bd x hx
    · rw [List.mem_singleton] at hx; subst hx; exact h0
/-- all of a term's variables are small -/
def Tm.vsOk (t : Tm) : Prop := ∀ x ∈ t.vs, 0 ≤ x ∧ x < 6000
/-- what reach hands back -/
def RetMet (M : List Int) (w : World) (e : Ending) (w' : World) : Prop := ∃ (M' : List Int) (ao : Option Addr) (cap : Nat), e = .returned (.slice ao M'.length cap) ∧ IsAt w' (.slice ao M'.length cap) M' ∧ MetOk M' ∧ (∀ x ∈ M, x ∈ M') ∧ Below w.heap.size w w'
end Go.Proofs.Ytmffobadnmkpbaa
namespace Go.Proofs.Ytmffobadnmkpbaa
open Go.RowKit

theorem own_madeM (w : World) : (w.alloc (.cells #[] 3)).ownsRow w.heap.size 3 1 (.slice (some ⟨w.heap.size, 0, none⟩) 0 0) 0 [] :=
  World.ownsRow_made (base := w.heap.size) (size := 1) (e := 3) w #[] 0 (by simp) (by decide) rfl
theorem findB_memN {L : List (Int × Tm × Value)} {n : Int} (h : (findB L n).isSome = true) : ∃ x ∈ L, x.1 = n ∧ x.2 = (findT L n, findV L n) := by
  unfold findT findV findB at *
  cases e : L.find? (fun x => x.1 == n) with
  | none => rw [e] at h; simp at h
  | some x => exact ⟨x, List.mem_of_find?_eq_some e, by simpa using List.find?_some e, by simp⟩
def ReachC (L : List (Int × Tm × Value)) (v : Value) (f : Nat) (t : Tm) : Prop := ∀ (a mv : Value) (M : List Int) (w : World), BsAt w v L → TmAt (fun _ => True) w t a → IsAt w mv M → MetOk M → freeB L M ≤ f → Calls Try.prog 147 #[v, tmV t a, mv] w (RetMet M w)
set_option maxRecDepth 100000 in
set_option maxHeartbeats 3200000 in
theorem reach_var (L : List (Int × Tm × Value)) (v : Value) (f n : Nat) (hl : L.length ≤ 1000000) (hn6 : n < 6000) (hF : ∀ g, g < f → ∀ x ∈ L, ReachC L v g x.2.1) : ReachC L v f (.var n) := by
  intro a mv M w hB ht hM hMo hf
  obtain ⟨lo, lc, rfl, _⟩ := hB.shape
  obtain ⟨ma, mc, rfl, _⟩ := hM.shape
  cases ht with
  | leaf _ =>
  obtain ⟨i0, hi, hz0, hz1, hz2⟩ := info_parts Try.infoInt
  obtain ⟨V, hV⟩ : ∃ V, V = w.alloc (.cells #[.int .i64 1, .int .i64 n, .string ByteArray.empty, .slice none 0 0] 24) := ⟨_, rfl⟩
  have BV : Hid (Below w.heap.size w V) := by rw [hV]; exact (Below.refl _ _).alloc (Nat.le_refl _) _
  have XV : Hid (BoxL V w.heap.size [.int .i64 1, .int .i64 n, .string ByteArray.empty, .slice none 0 0]) := by rw [hV]; exact BoxL.mk' w #[.int .i64 1, .int .i64 n, .string ByteArray.empty, .slice none 0 0] 24
  have HB := Lib.hid hB
  have HM := Lib.hid hM
  have HMO := Lib.hid hMo
  have HF := Lib.hid hF
  have HFR := Lib.hid hf
  have hml : M.length ≤ 6000 := hMo.len
  have HV := Lib.hid hV
  have hVs : Hid (V.heap.size = w.heap.size + 1) := by show _ = _; rw [hV]; simp
  clear hB hM hMo hF hf hV
  change Calls _ _ #[_, .agg #[.int .i64 1, .int .i64 n, .string ByteArray.empty, .slice none 0 0], _] _ _
  go_enter Try.func147, Try.ntmps147
  go_upto_region 1 with fail
  rw [← HV.out]
  clear HV
  obtain ⟨x0, _⟩ := XV.out.get 0 rfl
  obtain ⟨x1, _⟩ := XV.out.get 1 rfl
  obtain ⟨x2, _⟩ := XV.out.get 2 rfl
  obtain ⟨x3, _⟩ := XV.out.get 3 rfl
  go_wp2
  go_loopg [7] M.length (fun m s wr => ∃ k : Nat, k ≤ M.length ∧ s = .int .i64 k ∧ Hid (m = M.length - k) ∧ Hid ((n : Int) ∉ M.take k) ∧ Hid (Below V.heap.size V wr))
  case atStart => exact ⟨0, by omega, rfl, rfl, Lib.hid (by simp), Below.refl _ _⟩
  case round =>
    obtain ⟨k, hk, rfl, HN, HE, HW⟩ := hrel
    clear x0 x1 x2 x3
    have XW := Lib.hid (XV.out.below HW.out (by have := hVs.out; omega))
    obtain ⟨x0, _⟩ := XW.out.get 0 rfl
    obtain ⟨x1, _⟩ := XW.out.get 1 rfl
    obtain ⟨x2, _⟩ := XW.out.get 2 rfl
    obtain ⟨x3, _⟩ := XW.out.get 3 rfl
    have BW : Hid (Below w.heap.size w wr) := BV.out.trans (HW.out.mono BV.out.size)
    have hbx := XW.out.lt (by simp)
    by_cases hlt : k < M.length
    · obtain ⟨b1, o1, rfl, q1, q2, hc1⟩ := IsAt.getR (HM.out.below BW.out) k hlt
      have j1 : (k : Int) < M.length := by omega
      have HS : Hid ((n : Int) ≠ M[k] → (n : Int) ∉ M.take (k + 1)) := fun h => by
        rw [List.take_succ_eq_append_getElem hlt, List.mem_append]; exact fun h3 => h3.elim (fun h2 => HE.out h2) (fun h2 => h (by simpa using h2))
      generalize M[k] = p at *
      by_cases hpq : p = (n : Int)
      · have hb : (p == (n : Int)) = true := by simp [hpq]
        clear hpq HS
        go_wp2
        go_quiet (fail)
        go_wp2
        go_ret
        exact ⟨M, _, _, rfl, HM.out.below (below_drewT BW.out _), HMO.out, fun x hx => hx, below_drewT BW.out _⟩
      · have hb : (p == (n : Int)) = false := by simp [hpq]
        have HS2 := Lib.hid (HS.out (fun e => hpq e.symm))
        clear hpq HS
        go_wp2
        go_quiet (fail)
        go_wp2
        go_roundg (M.length - (k + 1))
        case measure => have := HN.out; omega
        case rel => exact ⟨k + 1, by omega, by go_num, rfl, HS2, Lib.hid (below_drewT HW.out _)⟩
    · obtain rfl : k = M.length := by omega
      have HNM : Hid ((n : Int) ∉ M) := by have h := HE.out; rw [List.take_length] at h; exact h
      obtain ⟨U, hU⟩ : ∃ U, U = wr.alloc (.cells #[] 3) := ⟨_, rfl⟩
      have BU : Hid (Below wr.heap.size wr U) := by rw [hU]; exact (Below.refl _ _).alloc (Nat.le_refl _) _
      have R0 : Hid (U.ownsRow wr.heap.size 3 1 (.slice (some ⟨wr.heap.size, 0, none⟩) 0 0) 0 []) := by rw [hU]; exact own_madeM wr
      have SM : Hid (SlAt U 1 (.slice ma M.length mc) M.length (M.map (Value.int .i64))) := (HM.out.below BW.out).below BU.out
      have OM : Hid (∀ u ∈ M.map (Value.int .i64), u.oneCell' = true) := fun u hu => by obtain ⟨_, _, rfl⟩ := List.mem_map.1 hu; rfl
      have HU := Lib.hid hU
      have hub : wr.heap.size ≤ U.heap.size := BU.out.size
      have hsw : w.heap.size ≤ wr.heap.size := BW.out.size
      clear hU HE HN
      go_upto_region 8 with fail
      rw [← HU.out]
      clear HU x0 x1 x2 x3
      go_upto_region 9 with (at_builtin; refine wpList_append_slX rfl (.tmp 30) (.tmp 31) 29 rfl wr.heap.size 3 i0 (.int .i64 0) 1 8 Try.underlying29 hi hz0 hz1 hz2 rfl (by decide) _ 0 [] rfl R0.out _ M.length (M.map (Value.int .i64)) rfl SM.out OM.out ⟨by omega, by omega⟩ hub ?_; intro v3 W3 ho3 hb3 hk3 hl3; have O3 := Lib.hid ho3; have B3 := Lib.hid hb3; clear ho3 hb3 hk3 hl3)
      have O3' : Hid (W3.ownsRow wr.heap.size 3 1 v3 M.length (M.map (Value.int .i64))) := by show World.ownsRow _ _ _ _ _ _ _; have := O3.out; simpa using this
      obtain ⟨o3, c3, rfl, _⟩ := (SlAt.of_own O3'.out).shape
      have B3' : Hid (Below wr.heap.size wr W3) := BU.out.trans (B3.out.mono (Nat.le_refl _))
      have X3 := Lib.hid (XW.out.below B3'.out hbx)
      obtain ⟨x0, _⟩ := X3.out.get 0 rfl
      obtain ⟨x1, _⟩ := X3.out.get 1 rfl
      obtain ⟨x2, _⟩ := X3.out.get 2 rfl
      obtain ⟨x3, _⟩ := X3.out.get 3 rfl
      have hw3 : wr.heap.size ≤ W3.heap.size := B3'.out.size
      clear O3 SM OM R0
      go_upto_region 10 with (at_builtin; refine wpList_appendX rfl (.tmp 33) (.tmp 36) 29 rfl wr.heap.size 3 i0 (.int .i64 0) 1 8 Try.underlying29 hi hz0 hz1 hz2 rfl (by decide) _ M.length (M.map (Value.int .i64)) rfl O3'.out _ _ rfl rfl rfl (one1 rfl) ⟨by omega, by omega⟩ hw3 ?_; intro g5 cap5 W5 ho5 hb5 hk5 hl5; have O5 := Lib.hid ho5; have B5 := Lib.hid hb5; clear ho5 hb5 hk5 hl5)
      have B5' : Hid (Below w.heap.size w W5) := BW.out.trans ((B3'.out.trans (B5.out.mono (Nat.le_refl _))).mono hsw)
      have I5 : Hid (IsAt W5 (.slice (some ⟨g5, 0, none⟩) (M ++ [(n : Int)]).length cap5) (M ++ [(n : Int)])) := by
        show SlAt _ _ _ _ _
        have h := SlAt.of_own O5.out
        rw [List.length_append, List.map_append]; exact h
      clear x0 x1 x2 x3
      have X5 := Lib.hid (X3.out.below B5.out hbx)
      obtain ⟨x0, _⟩ := X5.out.get 0 rfl
      obtain ⟨x1, _⟩ := X5.out.get 1 rfl
      obtain ⟨x2, _⟩ := X5.out.get 2 rfl
      obtain ⟨x3, _⟩ := X5.out.get 3 rfl
      have CF := Lib.hid (find_c _ L n W5 (HB.out.later B5'.out) hl)
      have HFT : Hid ((findB L n).isSome = true → ∃ x ∈ L, x.1 = (n : Int) ∧ x.2 = (findT L n, findV L n)) := findB_memN
      have HM1 := Lib.hid (HMO.out.push HNM.out ⟨by omega, by omega⟩)
      have HLT : Hid (∀ x ∈ L, x.1 = (n : Int) → freeB L (M ++ [(n : Int)]) < f) := fun x hx he => Nat.lt_of_lt_of_le (freeB_lt HNM.out hx he) HFR.out
      have hln : (M ++ [(n : Int)]).length = M.length + 1 := by simp
      rw [hln] at I5
      unfold RetFind at CF
      generalize (findB L n).isSome = r at *
      generalize findT L n = G at *
      generalize findV L n = gv at *
      cases r with
      | false =>
        go_wp2_with (first | (go_at_call 146; ((with_reducible refine CF.out.mono ?_); rintro e W6 ⟨fa, fc, rfl, rfl, bb⟩; have B6 := Lib.hid (bb.trans ((Below.refl W6.heap.size W6).alloc (Nat.le_refl _) (.cells #[.int .i64 G.kind, .int .i64 G.num, .string G.name, .slice fa G.args.length fc] 24) |>.mono bb.size)); clear bb)))
        go_ret
        exact ⟨M ++ [(n : Int)], _, cap5, by rw [hln]; rfl, by rw [hln]; exact I5.out.below B6.out, HM1.out, fun x hx => List.mem_append_left _ hx, B5'.out.trans (B6.out.mono B5'.out.size)⟩
      | true =>
        go_upto_region 12 with (first | (go_at_call 146; ((with_reducible refine CF.out.mono ?_); rintro e W6 ⟨fa, fc, rfl, rfl, bb⟩; have B6 := Lib.hid bb; clear bb)))
        obtain ⟨y, hy, hy1, hy2⟩ := HFT.out (by first | trivial | rfl)
        obtain ⟨W7, hW7⟩ : ∃ W7, W7 = W6.alloc (.cells #[.int .i64 G.kind, .int .i64 G.num, .string G.name, .slice fa G.args.length fc] 24) := ⟨_, rfl⟩
        have B7 : Hid (Below W5.heap.size W5 W7) := by rw [hW7]; exact B6.out.trans (((Below.refl _ _).alloc (Nat.le_refl _) _).mono B6.out.size)
        have X7 := BoxL.mk' W6 #[.int .i64 G.kind, .int .i64 G.num, .string G.name, .slice fa G.args.length fc] 24
        rw [← hW7] at X7
        have BA : Hid (Below w.heap.size w W7) := B5'.out.trans (B7.out.mono B5'.out.size)
        have hG : y.2.1 = G := by rw [hy2]
        have hV : y.2.2 = .slice fa G.args.length fc := by rw [hy2]
        have TG : TmAt (fun _ => True) W7 G (.slice fa G.args.length fc) := by
          have h := (HB.out.tms y hy).later BA.out
          rw [hG, hV] at h; exact h
        have CR : Hid (Calls Try.prog 147 #[.slice lo L.length lc, .agg #[.int .i64 G.kind, .int .i64 G.num, .string G.name, .slice fa G.args.length fc], .slice (some ⟨g5, 0, none⟩) (M.length + 1) cap5] W7 (RetMet (M ++ [(n : Int)]) W7)) := by
          have h := HF.out _ (HLT.out y hy hy1) y hy (.slice fa G.args.length fc) (.slice (some ⟨g5, 0, none⟩) (M ++ [(n : Int)]).length cap5) (M ++ [(n : Int)]) W7 (HB.out.later BA.out) (by rw [hG]; exact TG) (by rw [hln]; exact I5.out.below B7.out) HM1.out (Nat.le_refl _)
          rw [hG, hln] at h; exact h
        rw [← hW7]
        clear x0 x1 x2 x3 hW7
        obtain ⟨x0, _⟩ := X7.get 0 rfl
        obtain ⟨x1, _⟩ := X7.get 1 rfl
        obtain ⟨x2, _⟩ := X7.get 2 rfl
        obtain ⟨x3, _⟩ := X7.get 3 rfl
        go_wp2_with (first | (go_at_call 147; ((with_reducible refine CR.out.mono ?_); rintro e W8 ⟨M8, a8, c8, rfl, i8, ok8, sub8, bb⟩; have I8 := Lib.hid i8; have K8 := Lib.hid ok8; have S8 := Lib.hid sub8; have B8 := Lib.hid bb; clear i8 ok8 sub8 bb)))
        go_ret
        exact ⟨M8, a8, c8, rfl, I8.out, K8.out, fun x hx => S8.out x (List.mem_append_left _ hx), BA.out.trans (B8.out.mono BA.out.size)⟩
end Go.Proofs.Ytmffobadnmkpbaa
namespace Go.Proofs.Ytmffobadnmkpbaa
open Go.RowKit

set_option maxRecDepth 100000 in
set_option maxHeartbeats 3200000 in
theorem reach_step (L : List (Int × Tm × Value)) (v : Value) (f : Nat) (t : Tm) (hk : t.kind ≠ 1) (hn : t.size ≤ 1000000) (hC : ∀ u ∈ t.args, ReachC L v f u) : ReachC L v f t := by
  intro a mv M w hB ht hM hMo hf
  obtain ⟨lo, lc, rfl, _⟩ := hB.shape
  obtain ⟨ma, mc, rfl, _⟩ := hM.shape
  have h4 := fun h => ht.nil_of h
  obtain ⟨ao, cc, rfl, hc1, hc2⟩ := ht.shape
  obtain ⟨V, hV⟩ : ∃ V, V = w.alloc (.cells #[.int .i64 t.kind, .int .i64 t.num, .string t.name, .slice ao t.args.length cc] 24) := ⟨_, rfl⟩
  have BV : Hid (Below w.heap.size w V) := by rw [hV]; exact (Below.refl _ _).alloc (Nat.le_refl _) _
  have XV : Hid (BoxL V w.heap.size [.int .i64 t.kind, .int .i64 t.num, .string t.name, .slice ao t.args.length cc]) := by rw [hV]; exact BoxL.mk' w #[.int .i64 t.kind, .int .i64 t.num, .string t.name, .slice ao t.args.length cc] 24
  have HB := Lib.hid hB
  have HM := Lib.hid hM
  have HMO := Lib.hid hMo
  have HC := Lib.hid hC
  have HFR := Lib.hid hf
  have HT := Lib.hid (TsAt.of_tm ht)
  have HV := Lib.hid hV
  have hVs : Hid (V.heap.size = w.heap.size + 1) := by show _ = _; rw [hV]; simp
  have hkb : (t.kind == 1) = false := by simpa using hk
  have hll : t.args.length ≤ 1000000 := by have h1 := Tm.sizes_len t.args; have h2 := t.size_eq; omega
  have HA0 : Hid (t.kind ≠ 4 → t.args.length = 0) := fun h => by rw [Tm.args_kind h]; rfl
  unfold tmV
  clear hB hM hMo hC hf hV ht h4 hk hn
  go_enter Try.func147, Try.ntmps147
  go_upto_region 1 with fail
  rw [← HV.out]
  clear HV
  obtain ⟨x0, _⟩ := XV.out.get 0 rfl
  obtain ⟨x1, _⟩ := XV.out.get 1 rfl
  obtain ⟨x2, _⟩ := XV.out.get 2 rfl
  obtain ⟨x3, _⟩ := XV.out.get 3 rfl
  go_wp2
  go_loopg [2, 11] t.args.length (fun m mv i wr => ∃ (k : Nat) (M' : List Int) (ma : Option Addr) (mc : Nat), k ≤ t.args.length ∧ i = .int .i64 k ∧ mv = .slice ma M'.length mc ∧ Hid (m = t.args.length - k) ∧ Hid (IsAt wr (.slice ma M'.length mc) M') ∧ Hid (MetOk M') ∧ Hid (∀ x ∈ M, x ∈ M') ∧ Hid (Below V.heap.size V wr))
  case atStart => exact ⟨0, M, ma, mc, by omega, rfl, rfl, rfl, HM.out.below BV.out, HMO, Lib.hid (fun x hx => hx), Below.refl _ _⟩
  case round =>
    obtain ⟨k, M', na, nc, hk, rfl, rfl, HN, HI, HO, HSub, HW⟩ := hrel
    clear x0 x1 x2 x3
    have XW := Lib.hid (XV.out.below HW.out (by have := hVs.out; omega))
    obtain ⟨x0, _⟩ := XW.out.get 0 rfl
    obtain ⟨x1, _⟩ := XW.out.get 1 rfl
    obtain ⟨x2, _⟩ := XW.out.get 2 rfl
    obtain ⟨x3, _⟩ := XW.out.get 3 rfl
    have BW : Hid (Below w.heap.size w wr) := BV.out.trans (HW.out.mono BV.out.size)
    have hbx := XW.out.lt (by simp)
    by_cases hlt : k < t.args.length
    · have hk4 : (t.kind == 4) = true := by
        by_cases h : t.kind = 4
        · simp [h]
        · have := HA0.out h; omega
      obtain ⟨b, off, a1, rfl, -, hcc, hta⟩ := (HT.out.later BW.out).get k hlt
      obtain ⟨p1, q1, rfl, _⟩ := hta.shape
      have hki : (k : Int) < t.args.length := by omega
      have hbl := hcc.lt
      have CX := Lib.hid (HC.out t.args[k] (List.getElem_mem hlt))
      generalize t.args[k] = u at *
      obtain ⟨c0, c1, c2, c3⟩ := hcc
      have CR : Hid (Calls Try.prog 147 #[.slice lo L.length lc, .agg #[.int .i64 u.kind, .int .i64 u.num, .string u.name, .slice p1 u.args.length q1], .slice na M'.length nc] wr (RetMet M' wr)) :=
        CX.out _ _ M' wr (HB.out.later BW.out) hta HI.out HO.out (Nat.le_trans (freeB_le HSub.out) HFR.out)
      clear hta CX
      go_wp2_with (first | (go_at_call 147; ((with_reducible refine CR.out.mono ?_); rintro e W8 ⟨M8, a8, c8, rfl, i8, ok8, sub8, bb⟩; have I8 := Lib.hid i8; have K8 := Lib.hid ok8; have S8 := Lib.hid sub8; have B8 := Lib.hid bb; clear i8 ok8 sub8 bb)))
      go_roundg (t.args.length - (k + 1))
      case measure => have := HN.out; omega
      case rel => exact ⟨k + 1, M8, a8, c8, by omega, by go_num, rfl, rfl, I8, K8, Lib.hid (fun x hx => S8.out x (HSub.out x hx)), HW.out.trans (B8.out.mono HW.out.size)⟩
    · obtain rfl : k = t.args.length := by omega
      go_wp2
      all_goals
        go_ret
        exact ⟨M', na, nc, rfl, HI.out, HO.out, HSub.out, BW.out⟩
/-- reach, whatever is bound -/
theorem reach_all (L : List (Int × Tm × Value)) (v : Value) (hl : L.length ≤ 1000000) (hL : ∀ x ∈ L, x.2.1.vsOk ∧ x.2.1.size ≤ 1000000) (hV : ∀ t : Tm, t.vsOk → ∀ u ∈ t.args, u.vsOk) : ∀ (f : Nat) (t : Tm), t.vsOk → t.size ≤ 1000000 → ReachC L v f t := by
  intro f
  induction f using Nat.strongRecOn with
  | ind f ihf =>
    intro t
    induction t using Tm.ind with
    | h1 n => exact fun hv _ => reach_var L v f n hl (by have h := (hv n (by simp [Tm.vs])).2; omega) fun g hg x hx => ihf g hg x.2.1 (hL x hx).1 (hL x hx).2
    | h4 s l ih => exact fun hv hn => reach_step L v f _ (by simp [Tm.kind]) hn fun u hu => ih u hu (hV _ hv u hu) (by have := Tm.args_size (t := .cmp s l) (u := u) hu; omega)
    | _ => exact fun hv hn => reach_step L v f _ (by simp [Tm.kind]) hn (by simp [Tm.args])
end Go.Proofs.Ytmffobadnmkpbaa
namespace Go.Proofs.Ytmffobadnmkpbaa
open Go.RowKit

mutual
/-- a term whose variables are 1000 further on -/
def shT : Tm → Tm
  | .nil => .nil
  | .var n => .var (n + 1000)
  | .int z => .int z
  | .atom s => .atom s
  | .cmp s l => .cmp s (shTs l)
def shTs : List Tm → List Tm
  | [] => []
  | t :: l => shT t :: shTs l
end
theorem shTs_append (a b : List Tm) : shTs (a ++ b) = shTs a ++ shTs b := by
  induction a with
  | nil => rfl
  | cons t l ih => simp [shTs, ih]
theorem shTs_len (l : List Tm) : (shTs l).length = l.length := by
  induction l with
  | nil => rfl
  | cons t l ih => simp [shTs, ih]
def ShC (t : Tm) : Prop := ∀ (va : Value) (w : World), TmAt (fun _ => True) w t va → t.ok → t.size ≤ 1000000 → Calls Try.prog 52 #[tmV t va, .int .i64 1000] w (RetTm7 (shT t) w)
set_option maxRecDepth 100000 in
set_option maxHeartbeats 6400000 in
theorem sh_step (t : Tm) (va : Value) (w : World) (ht : TmAt (fun _ => True) w t va) (hok : t.ok) (hn : t.size ≤ 1000000) (hC : ∀ u ∈ t.args, ShC u) :
    Calls Try.prog 52 #[tmV t va, .int .i64 1000] w (RetTm7 (shT t) w) := by
  have h4 := fun h => ht.nil_of h
  obtain ⟨ao, cc, rfl, hc1, hc2⟩ := ht.shape
  obtain ⟨i0, hi, hz0, hz1, hz2⟩ := info_parts Try.infoTerm
  have al : ∀ (W : World) (o : Obj) (B : Nat), B ≤ W.heap.size → Below B W (W.alloc o) := fun W o B h => (Below.refl B W).alloc h o
  have AL := Lib.hid al
  obtain ⟨V, hV⟩ : ∃ V, V = ((w.alloc (.cells #[.int .i64 t.kind, .int .i64 t.num, .string t.name, .slice ao t.args.length cc] 24)).alloc (.cells #[.int .i64 0, .int .i64 0, .string ⟨#[]⟩, .slice none 0 0] 24)) := ⟨_, rfl⟩
  have BV : Hid (Below w.heap.size w V) := by rw [hV]; exact (al _ _ _ (Nat.le_refl _)).trans (al _ _ _ (by simp))
  have hsV : V.heap.size = w.heap.size + 2 := by rw [hV]; simp
  have XV : Hid (BoxL V w.heap.size [.int .i64 t.kind, .int .i64 t.num, .string t.name, .slice ao t.args.length cc]) := by rw [hV]; exact (BoxL.mk' w #[.int .i64 t.kind, .int .i64 t.num, .string t.name, .slice ao t.args.length cc] 24).below (al _ _ (w.heap.size + 1) (by simp)) (by omega)
  have ZV : Hid (BoxL V (w.heap.size + 1) [.int .i64 0, .int .i64 0, .string ⟨#[]⟩, .slice none 0 0]) := by
    rw [hV]
    have h := BoxL.mk' (w.alloc (.cells #[.int .i64 t.kind, .int .i64 t.num, .string t.name, .slice ao t.args.length cc] 24)) #[.int .i64 0, .int .i64 0, .string ⟨#[]⟩, .slice none 0 0] 24
    simp only [World.size_alloc] at h
    exact h
  have HS := Lib.hid hsV
  obtain ⟨⟨x0, x1, x2, x3⟩, _⟩ := box4c XV.out
  obtain ⟨⟨z0, z1, z2, z3⟩, f0, f1, f2, f3⟩ := box4c ZV.out
  by_cases hk : t.kind = 1
  · obtain ⟨n, rfl, hn5⟩ := Tm.ok_var hok hk
    obtain ⟨q, hq⟩ : ∃ q : Nat, (n : Int) + 1000 = q := ⟨n + 1000, by omega⟩
    have hqn : n + 1000 = q := by omega
    have hw1 : IntKind.i64.wrap ((n : Int) + 1000) = q := by rw [hq]; exact IntWalk.i64_in _ (by omega)
    have he := h4 (by simp [Tm.kind])
    simp only [Value.slice.injEq, Tm.args, List.length_nil] at he
    obtain ⟨rfl, -, rfl⟩ := he
    have hG : shT (.var n) = .var q := by simp only [shT, hqn]
    rw [hG]
    change Calls _ _ #[.agg #[.int .i64 1, .int .i64 n, .string ByteArray.empty, .slice none 0 0], .int .i64 1000] _ (RetTm7 (.var q) w)
    have x0' : V.cell? ⟨w.heap.size, 0, none⟩ = some (.int .i64 1) := x0
    have x1' : V.cell? ⟨w.heap.size, 1, none⟩ = some (.int .i64 n) := x1
    have hV' : V = ((w.alloc (.cells #[.int .i64 1, .int .i64 n, .string ByteArray.empty, .slice none 0 0] 24)).alloc (.cells #[.int .i64 0, .int .i64 0, .string ⟨#[]⟩, .slice none 0 0] 24)) := hV
    clear ht hok hn hC h4 hk hc1 hc2 hV hsV hqn hG x0 x1 x2 x3 al
    go_enter Try.func52, Try.ntmps52
    go_upto_region 1 with (fail)
    rw [← hV']
    clear hV'
    go_wp2
    refine post_gen7 fun W9 hW9 => ?_
    try rw [hq] at hW9
    have hr := Res4.mk' (W9 := W9) (G := .var q) (a := .slice none 0 0) ZV.out BV.out (.leaf rfl) hW9
    clear z0 z1 z2 z3 f0 f1 f2 f3
    obtain ⟨⟨z0, z1, z2, z3⟩, -⟩ := box4c hr.box
    simp only [Tm.kind, Tm.num, Tm.name] at z0 z1 z2
    refine bodyPost_ret (v := .agg #[.int .i64 1, .int .i64 q, .string ByteArray.empty, .slice none 0 0]) (by simp [results, Try.results52, go_sem, z0, z1, z2, z3]; try rfl) rfl ?_
    exact ⟨none, 0, rfl, hr.at', hr.bel⟩
  · have hkb : (t.kind == 1) = false := by simpa using hk
    by_cases hk4 : t.kind = 4
    · obtain ⟨s, l, rfl⟩ : ∃ s l, t = .cmp s l := by cases t <;> simp [Tm.kind] at hk4; exact ⟨_, _, rfl⟩
      have hl0 : 0 < l.length := by cases hok; assumption
      have HT := Lib.hid (TsAt.of_tm ht)
      have HC := Lib.hid hC
      have HOK := Lib.hid (Tm.ok_args hok)
      have HSZ : Hid (∀ u ∈ l, u.size ≤ 1000000) := fun u hu => by have := Tm.args_size (t := .cmp s l) (u := u) hu; omega
      have hll : l.length ≤ 1000000 := by have h1 := Tm.sizes_len l; simp only [Tm.size] at hn; omega
      simp only [Tm.args] at HT HC HOK
      rw [show shT (.cmp s l) = .cmp s (shTs l) from by simp only [shT]]
      change Calls _ _ #[.agg #[.int .i64 4, .int .i64 0, .string s, .slice ao l.length cc], .int .i64 1000] _ _
      have XV' : Hid (BoxL V w.heap.size [.int .i64 4, .int .i64 0, .string s, .slice ao l.length cc]) := XV
      have hV' : V = ((w.alloc (.cells #[.int .i64 4, .int .i64 0, .string s, .slice ao l.length cc] 24)).alloc (.cells #[.int .i64 0, .int .i64 0, .string ⟨#[]⟩, .slice none 0 0] 24)) := hV
      clear x0 x1 x2 x3
      obtain ⟨⟨x0, x1, x2, x3⟩, _⟩ := box4c XV'.out
      have N0 : Hid (NL w.heap.size V (V.alloc (.cells #[.int .i64 4, .int .i64 0, .string s, .slice none 0 0] 24)) s (.slice none 0 0) []) := by
        have hb := BoxL.mk' V #[.int .i64 4, .int .i64 0, .string s, .slice none 0 0] 24
        rw [hsV] at hb
        exact ⟨OwnTs.none _ _ _, hb, AL.out _ _ _ (by omega), by simp [hsV]⟩
      have hk1 : ((4 : Int) == 1) = false := rfl
      clear ht hok hn hC h4 hk hk4 hkb hc1 hc2 hV XV al
      go_enter Try.func52, Try.ntmps52
      go_upto_region 1 with (fail)
      rw [← hV']
      clear hV'
      go_upto_region 7 with (fail)
      clear hsV x0 x1 x2 x3 z0 z1 z2 z3 f0 f1 f2 f3
      go_wp2
      go_loopg [6] l.length (fun n i wr => ∃ (k : Nat) (v : Value) (Q : List (Tm × Value)), k ≤ l.length ∧ i = .int .i64 k ∧ Hid (n = l.length - k) ∧ Hid (NL w.heap.size V wr s v Q) ∧ Hid (Q.map Prod.fst = shTs (l.take k)))
      case atStart => exact ⟨0, _, [], by omega, rfl, rfl, N0, Lib.hid rfl⟩
      case round =>
        obtain ⟨k, v, Q, hk, rfl, HN, HW, HQ⟩ := hrel
        have HBw : Hid (Below w.heap.size w wr) := BV.out.trans (HW.out.bel.mono (by omega))
        have hXw := XV'.out.block (HW.out.bel.block _ (by omega))
        obtain ⟨⟨x0, x1, x2, x3⟩, _⟩ := box4c hXw
        obtain ⟨va, vc, rfl, hvc, _⟩ := HW.out.own.shape
        have hQb : Q.length ≤ 1000000 := by have := congrArg List.length HQ.out; simp only [List.length_map, shTs_len, List.length_take] at this; omega
        obtain ⟨⟨y0, y1, y2, y3⟩, g0, g1, g2, g3⟩ := box4c HW.out.box
        have hwz := HW.out.sz
        by_cases hlt : k < l.length
        · have hki : (k : Int) < l.length := by omega
          obtain ⟨b, off, a1, rfl, -, hcc, hta⟩ := (HT.out.later HBw.out).get k hlt
          obtain ⟨p1, q1, rfl, _⟩ := hta.shape
          have hbl := hcc.lt
          have CX := Lib.hid (HC.out l[k] (List.getElem_mem hlt))
          have hou := HOK.out l[k] (List.getElem_mem hlt)
          have hsu := HSZ.out l[k] (List.getElem_mem hlt)
          have HQ2 : Hid (∀ q, (Q ++ [(shT l[k], q)]).map Prod.fst = shTs (l.take (k + 1))) := fun q => by rw [List.map_append, HQ.out, List.take_succ_eq_append_getElem hlt, shTs_append]; rfl
          generalize l[k] = u at *
          obtain ⟨c0, c1, c2, c3⟩ := hcc
          have CC : Hid (∀ W, Below wr.heap.size wr W → Calls Try.prog 52 #[.agg #[.int .i64 u.kind, .int .i64 u.num, .string u.name, .slice p1 u.args.length q1], .int .i64 1000] W fun e w' => ∃ pa qa, e = .returned (.agg #[.int .i64 (shT u).kind, .int .i64 (shT u).num, .string (shT u).name, .slice pa (shT u).args.length qa]) ∧ TmAt (fun b => wr.heap.size ≤ b) w' (shT u) (.slice pa (shT u).args.length qa) ∧ Below wr.heap.size wr w') := fun W h =>
            (CX.out _ W (hta.later h) hou hsu).mono fun e w' ⟨pa, qa, h1, h2, h3⟩ => ⟨pa, qa, h1, h2.mono fun b _ hp => ⟨Nat.le_trans h.size hp, rfl⟩, h.trans (h3.mono h.size)⟩
          generalize shT u = G at *
          have hbw2 : w.heap.size + 2 < wr.heap.size := by omega
          have hbw0 : w.heap.size < wr.heap.size := by omega
          clear hta CX hou hsu hXw
          go_upto_region 10 with (fail)
          go_region_law
            (first
              | (refine step_appendX rfl (.tmp 33) (.tmp 41) 22 rfl (w.heap.size + 3) 24 i0 (.agg #[.int .i64 0, .int .i64 0, .string ByteArray.empty, .slice none 0 0]) 4 56 Try.underlying22 hi hz0 hz1 hz2 rfl (by decide) _ Q.length (tmCs Q) rfl N3.out.own.own (#[.int .i64 G.kind, .int .i64 G.num, .string G.name, .slice pa G.args.length qa] : Array Value).toList _ rfl ?_ rfl ?_ ⟨by omega, by omega⟩ N3.out.sz ?_; (· exact news_al _ _ _); (· exact one4r rfl rfl rfl rfl); intro gg cap w6 ho6 hb6 hk6 hl6; have N6 := Lib.hid (N3.out.push TG.out ho6 hb6 hk6 hl6); have B6 := Lib.hid (N3.out.kept hk6); clear y0 y1 y2 y3 g0 g1 g2 g3; obtain ⟨⟨y0, y1, y2, y3⟩, g0, g1, g2, g3⟩ := box4c B6.out; clear ho6 hb6 hk6 hl6)
              | (go_simp; go_at_call 52; ((with_reducible refine (CC.out _ ?_).mono ?_); (· go_grown); rintro e W2 ⟨pa, qa, rfl, tg, bb⟩; have N2 := Lib.hid (HW.out.below bb); have N3 := Lib.hid (N2.out.below (AL.out W2 (.cells #[.int .i64 G.kind, .int .i64 G.num, .string G.name, .slice pa G.args.length qa] 24) _ (Nat.le_refl _))); have TG := Lib.hid (tg_push (o := (.cells #[.int .i64 G.kind, .int .i64 G.num, .string G.name, .slice pa G.args.length qa] 24)) HW.out tg); clear y0 y1 y2 y3 g0 g1 g2 g3; obtain ⟨⟨y0, y1, y2, y3⟩, g0, g1, g2, g3⟩ := box4c N2.out.box; have hbw2' : w.heap.size + 2 < W2.heap.size := Nat.lt_of_lt_of_le hbw2 bb.size; clear bb tg)))
          all_goals
            go_wp2
            go_roundg (l.length - (k + 1))
            case measure => have := HN.out; omega
            case rel => exact ⟨k + 1, _, _, by omega, by go_num, rfl, N6, HQ2.out _⟩
        · obtain rfl : k = l.length := by omega
          have HQ3 : Hid (Q.map Prod.fst = shTs l) := by have h := HQ.out; rw [List.take_length] at h; exact h
          have HQE : Hid (Q.length = (Tm.cmp s (shTs l)).args.length) := by show _ = _; have h := congrArg List.length HQ3.out; simpa [Tm.args] using h
          have ZX := Lib.hid (ZV.out.block (HW.out.bel.block _ (by omega)))
          obtain ⟨⟨z0, z1, z2, z3⟩, f0, f1, f2, f3⟩ := box4c ZX.out
          go_wp2
          refine post_gen7 fun W9 hW9 => ?_
          have hat : TmAt (fun b => w.heap.size + 2 ≤ b) wr (.cmp s (shTs l)) (.slice va Q.length vc) := (HW.out.own.tm (fun _ h => h) s HQ3.out (by rw [shTs_len]; exact hl0)).mono fun b _ hp => ⟨by omega, rfl⟩
          have hr := Res4.mk' (W9 := W9) (G := .cmp s (shTs l)) (a := .slice va Q.length vc) ZX.out HBw.out hat hW9
          clear z0 z1 z2 z3 f0 f1 f2 f3 y0 y1 y2 y3 g0 g1 g2 g3
          obtain ⟨⟨z0, z1, z2, z3⟩, -⟩ := box4c hr.box
          simp only [Tm.kind, Tm.num, Tm.name] at z0 z1 z2
          refine bodyPost_ret (v := .agg #[.int .i64 4, .int .i64 0, .string s, .slice va Q.length vc]) (by simp [results, Try.results52, go_sem, z0, z1, z2, z3]; try rfl) rfl ?_
          have h9 := hr.at'
          rw [HQE.out] at h9
          exact ⟨va, vc, congrArg (fun n => Ending.returned (.agg #[.int .i64 4, .int .i64 0, .string s, .slice va n vc])) HQE.out, h9, hr.bel⟩
    · have hk4b : (t.kind != 4) = true := by simpa using hk4
      have hG : shT t = t := by cases t <;> simp [Tm.kind] at hk hk4 <;> simp [shT]
      rw [hG]
      have hlf : t.args = [] := Tm.args_kind hk4
      have HLF := Lib.hid hlf
      have he := h4 hk4
      simp only [Value.slice.injEq] at he
      obtain ⟨rfl, -, rfl⟩ := he
      have hl0 : t.args.length = 0 := by rw [hlf]; rfl
      unfold tmV
      clear ht hok hn hC h4 hk hk4 hc1 hc2 hG hlf al
      generalize hz : t.args.length = z at *
      subst hl0
      go_enter Try.func52, Try.ntmps52
      go_upto_region 1 with (fail)
      rw [← hV]
      clear hV hsV
      go_wp2
      refine post_gen7 fun W9 hW9 => ?_
      have hr := Res4.mk' (W9 := W9) (G := t) (a := .slice none 0 0) ZV.out BV.out (.leaf HLF.out) hW9
      clear z0 z1 z2 z3 f0 f1 f2 f3
      obtain ⟨⟨z0, z1, z2, z3⟩, -⟩ := box4c hr.box
      refine bodyPost_ret (v := .agg #[.int .i64 t.kind, .int .i64 t.num, .string t.name, .slice none 0 0]) (by simp [results, Try.results52, go_sem, z0, z1, z2, z3]; try rfl) rfl ?_
      have h9 := hr.at'
      exact ⟨none, 0, by rw [hz], by rw [hz]; exact h9, hr.bel⟩
theorem sh_all (t : Tm) : ShC t := by
  induction t using Tm.ind with
  | h4 s l ih => exact fun va w ht hok hn => sh_step _ va w ht hok hn ih
  | _ => exact fun va w ht hok hn => sh_step _ va w ht hok hn (by simp [Tm.args])
end Go.Proofs.Ytmffobadnmkpbaa
namespace Go.Proofs.Ytmffobadnmkpbaa
open Go.RowKit

theorem vss_mem {l : List Tm} {u : Tm} (h : u ∈ l) {x : Int} (hx : x ∈ u.vs) : x ∈ Tm.vss l := by
  induction l with
  | nil => cases h
  | cons a l ih =>
    simp only [Tm.vss, List.mem_append]
    rcases List.mem_cons.1 h with rfl | h
    · exact .inl hx
    · exact .inr (ih h)
theorem vss_mem' {l : List Tm} {x : Int} (hx : x ∈ Tm.vss l) : ∃ u ∈ l, x ∈ u.vs := by
  induction l with
  | nil => simp [Tm.vss] at hx
  | cons a l ih =>
    simp only [Tm.vss, List.mem_append] at hx
    rcases hx with h | h
    · exact ⟨a, List.mem_cons_self, h⟩
    · obtain ⟨u, hu, h⟩ := ih h
      exact ⟨u, List.mem_cons_of_mem _ hu, h⟩
theorem vsOk_args (t : Tm) (h : t.vsOk) : ∀ u ∈ t.args, u.vsOk := by
  intro u hu x hx
  cases t with
  | cmp s l => exact h x (by simp only [Tm.vs]; exact vss_mem hu hx)
  | _ => simp [Tm.args] at hu
theorem shTs_mem {l : List Tm} {u : Tm} (h : u ∈ shTs l) : ∃ v ∈ l, u = shT v := by
  induction l with
  | nil => simp [shTs] at h
  | cons a l ih =>
    simp only [shTs] at h
    rcases List.mem_cons.1 h with rfl | h
    · exact ⟨a, List.mem_cons_self, rfl⟩
    · obtain ⟨v, hv, e⟩ := ih h
      exact ⟨v, List.mem_cons_of_mem _ hv, e⟩
theorem vsOk_of {t : Tm} (h : t.ok) : t.vsOk := by
  induction t using Tm.ind with
  | h4 s l ih =>
    cases h with
    | cmp _ _ hl =>
      intro x hx
      simp only [Tm.vs] at hx
      obtain ⟨u, hu, h⟩ := vss_mem' hx
      exact ih u hu (hl u hu) x h
  | h1 n =>
    cases h with
    | var hn => intro x hx; simp only [Tm.vs, List.mem_singleton] at hx; omega
  | _ => intro x hx; simp [Tm.vs] at hx
theorem vsOk_sh {t : Tm} (h : t.ok) : (shT t).vsOk := by
  induction t using Tm.ind with
  | h4 s l ih =>
    cases h with
    | cmp _ _ hl =>
      intro x hx
      simp only [shT, Tm.vs] at hx
      obtain ⟨u, hu, h⟩ := vss_mem' hx
      obtain ⟨v, hv, rfl⟩ := shTs_mem hu
      exact ih v hv (hl v hv) x h
  | h1 n =>
    cases h with
    | var hn => intro x hx; simp only [shT, Tm.vs, List.mem_singleton] at hx; omega
  | _ => intro x hx; simp [shT, Tm.vs] at hx
theorem size_sh (t : Tm) : (shT t).size = t.size := by
  induction t using Tm.ind with
  | h4 s l ih =>
    simp only [shT, Tm.size]
    congr 1
    induction l with
    | nil => rfl
    | cons a l ih2 =>
      simp only [shTs, Tm.sizes]
      rw [ih a List.mem_cons_self, ih2 fun u hu => ih u (List.mem_cons_of_mem _ hu)]
  | _ => rfl
/-- unlike at the top -/
def topU (a b : Tm) : Bool := (a.kind != b.kind) || ((a.kind == 2) && (a.num != b.num)) || ((a.kind != 2) && (a.name.toList != b.name.toList)) || ((a.kind == 4) && ((a.args.length : Int) != (b.args.length : Int)))
/-- no variables, and unlike -/
def Unl (a b : Tm) : Prop := a.kind ≠ 1 ∧ b.kind ≠ 1 ∧ topU a b = true
/-- unlike, or their first arguments are -/
def Unl2 (a b : Tm) : Prop := Unl a b ∨ (a.kind = 4 ∧ b.kind = 4 ∧ ∃ x xs y ys, a.args = x :: xs ∧ b.args = y :: ys ∧ Unl x y)
theorem sh_kind (t : Tm) : (shT t).kind = t.kind := by cases t <;> rfl
theorem sh_num {t : Tm} (h : t.kind ≠ 1) : (shT t).num = t.num := by cases t <;> first | rfl | exact absurd rfl h
theorem sh_name (t : Tm) : (shT t).name = t.name := by cases t <;> rfl
theorem sh_args (t : Tm) : (shT t).args = shTs t.args := by cases t <;> rfl
theorem topU_sh {a b : Tm} (h : a.kind ≠ 1) : topU (shT a) b = topU a b := by
  unfold topU; rw [sh_kind, sh_num h, sh_name, sh_args, shTs_len]
theorem unl_clash {a b : Tm} (ha : a.ok) (hb : b.ok) (h : clashT a b = true) : Unl (shT a) b := by
  unfold clashT at h
  simp only [Bool.and_eq_true, decide_eq_true_eq] at h
  obtain ⟨h1, h2, h3⟩ := h
  refine ⟨by rw [sh_kind]; exact h1, h2, ?_⟩
  rw [topU_sh h1]
  cases ha with
  | var _ => exact absurd rfl h1
  | int _ _ => cases hb <;> first | exact absurd rfl h2 | (simp [keyK, keyN, keyS, Tm.kind, Tm.num, Tm.name, Tm.args] at h3; simp [topU, Tm.kind, Tm.num, Tm.name, Tm.args]; try exact h3)
  | atom _ => cases hb <;> first | exact absurd rfl h2 | (simp [keyK, keyN, keyS, Tm.kind, Tm.num, Tm.name, Tm.args] at h3; simp [topU, Tm.kind, Tm.num, Tm.name, Tm.args]; try exact h3)
  | cmp _ _ _ => cases hb <;> first | exact absurd rfl h2 | (simp [keyK, keyN, keyS, Tm.kind, Tm.num, Tm.name, Tm.args] at h3; simp [topU, Tm.kind, Tm.num, Tm.name, Tm.args]; try exact h3.symm)
/-- bindings of small terms -/
def OkB (L : List (Int × Tm × Value)) : Prop := ∀ x ∈ L, x.2.1.vsOk ∧ x.2.1.size ≤ 1000000
theorem OkB.push {L : List (Int × Tm × Value)} (h : OkB L) {n : Int} {t : Tm} {a : Value} (ht : t.vsOk ∧ t.size ≤ 1000000) : OkB (L ++ [(n, t, a)]) := by
  intro x hx
  rcases List.mem_append.1 hx with hx | hx
  · exact h x hx
  · rw [List.mem_singleton] at hx; subst hx; exact ht
end Go.Proofs.Ytmffobadnmkpbaa
namespace Go.Proofs.Ytmffobadnmkpbaa
open Go.RowKit

theorem unl_head {a b : Tm} (ha : a.ok) (hb : b.ok) (hn : b.named = true) (h1 : a.kind ≠ 1) (h : headOf b.name b.args.length a = false) : Unl (shT a) b := by
  have h2 : b.kind ≠ 1 := fun e => by simp [Tm.named, e] at hn
  refine ⟨by rw [sh_kind]; exact h1, h2, ?_⟩
  rw [topU_sh h1]
  cases ha with
  | var _ => exact absurd rfl h1
  | int _ _ => cases hb <;> first | exact absurd rfl h2 | (simp [Tm.named, Tm.kind] at hn; done) | simp [topU, Tm.kind]
  | atom _ => cases hb <;> first | exact absurd rfl h2 | (simp [Tm.named, Tm.kind] at hn; done) | (simp [headOf, Tm.named, Tm.kind, Tm.name, Tm.args] at h; simp [topU, Tm.kind, Tm.num, Tm.name, Tm.args]; try exact h) | simp [topU, Tm.kind]
  | cmp _ _ _ => cases hb <;> first | exact absurd rfl h2 | (simp [Tm.named, Tm.kind] at hn; done) | (simp [headOf, Tm.named, Tm.kind, Tm.name, Tm.args] at h; simp [topU, Tm.kind, Tm.num, Tm.name, Tm.args]; exact Decidable.not_and_iff_or_not.1 (fun hh => h hh.1 hh.2)) | simp [topU, Tm.kind]
/-- where a head is not kept, it cannot be made the same -/
theorem unl_out {a b : Tm} (ha : a.ok) (hb : b.ok) (hn : b.named = true) (h1 : a.kind ≠ 1) (h : (headOf b.name b.args.length a && !(decide (0 < b.args.length) && clashT (a.args.getD 0 .nil) (b.args.getD 0 .nil))) = false) : Unl2 (shT a) b := by
  cases hh : headOf b.name b.args.length a with
  | false => exact .inl (unl_head ha hb hn h1 hh)
  | true =>
    rw [hh] at h
    simp only [Bool.true_and, Bool.not_eq_false', Bool.and_eq_true, decide_eq_true_eq] at h
    obtain ⟨h0, hc⟩ := h
    have hl : a.args.length = b.args.length := by
      simp only [headOf, Bool.and_eq_true, beq_iff_eq] at hh; omega
    cases ha with
    | @cmp s l _ _ hla => cases hb with
      | @cmp s' l' _ _ hlb =>
        simp only [Tm.args] at *
        obtain ⟨x, xs, rfl⟩ : ∃ x xs, l = x :: xs := List.exists_cons_of_length_pos (by omega)
        obtain ⟨y, ys, rfl⟩ : ∃ y ys, l' = y :: ys := List.exists_cons_of_length_pos h0
        exact .inr ⟨rfl, rfl, shT x, shTs xs, y, ys, by simp [shT, shTs, Tm.args], rfl, unl_clash (hla x List.mem_cons_self) (hlb y List.mem_cons_self) hc⟩
      | _ => simp [Tm.args] at h0
    | _ => simp only [Tm.args, List.length_nil] at hl h0; omega
/-- is the head at place k kept -/
def keepA (H : List Tm) (g : Tm) (k : Nat) : Bool := g.named && (headOf g.name g.args.length (H.getD k .nil) && !(decide (0 < g.args.length) && clashT ((H.getD k .nil).args.getD 0 .nil) (g.args.getD 0 .nil)))
def cntA (H : List Tm) (g : Tm) (k : Nat) : Nat := ((List.range k).filter (keepA H g)).length
theorem whichA_filter (H : List Tm) (g : Tm) : whichA H g = ((List.range H.length).filter (keepA H g)).map (fun (i : Nat) => (i : Int)) := by
  unfold whichA
  cases hn : g.named with
  | false =>
    have : (List.range H.length).filter (keepA H g) = [] := List.filter_eq_nil_iff.2 fun k _ => by simp [keepA, hn]
    rw [this]; rfl
  | true =>
    unfold whichI namedTo
    rw [List.filter_filter]
    simp only [if_true]
    congr 1
    refine List.filter_congr fun k _ => ?_
    simp only [keepA, hn, Bool.true_and]
    rw [Bool.and_comm]
/-- what a walk along the places tells -/
structure WalkF (n : Nat) (L : List Int) (p : Nat → Bool) (c : Nat → Nat) : Prop where
  z : c 0 = 0
  len : L.length = c n
  le : c n ≤ n
  yes : ∀ k, k < n → p k = true → c (k + 1) = c k + 1 ∧ ∃ h : c k < L.length, L[c k] = (k : Int)
  no : ∀ k, k < n → p k = false → c (k + 1) = c k ∧ ∀ h : c k < L.length, L[c k] ≠ (k : Int)
theorem walkF (H : List Tm) (g : Tm) : WalkF H.length (whichA H g) (keepA H g) (cntA H g) := by
  have hs : ∀ k, cntA H g (k + 1) = cntA H g k + (if keepA H g k then 1 else 0) := fun k => by
    unfold cntA
    rw [List.range_succ, List.filter_append, List.length_append, List.filter_cons]
    cases keepA H g k <;> simp
  refine ⟨rfl, by rw [whichA_filter, List.length_map]; rfl, ?_, fun k hk hp => ?_, fun k hk hp => ?_⟩
  · unfold cntA; have := List.length_filter_le (keepA H g) (List.range H.length); simpa using this
  · have hw := (filter_walk (keepA H g) H.length k hk).2 hp
    refine ⟨by rw [hs, hp]; simp, ?_⟩
    obtain ⟨hlt, he⟩ := List.getElem?_eq_some_iff.1 hw
    refine ⟨by rw [whichA_filter, List.length_map]; exact hlt, ?_⟩
    simp only [whichA_filter, List.getElem_map, cntA, he]
  · have hw := mt (filter_walk (keepA H g) H.length k hk).1 (by simp [hp])
    refine ⟨by rw [hs, hp]; simp, fun hlt he => hw ?_⟩
    have hlt2 : ((List.range k).filter (keepA H g)).length < ((List.range H.length).filter (keepA H g)).length := by rw [whichA_filter, List.length_map] at hlt; exact hlt
    rw [List.getElem?_eq_getElem hlt2]
    simp only [whichA_filter, List.getElem_map, cntA] at he
    congr 1
    omega
/-- where a head is not kept -/
theorem keepA_no {H : List Tm} {g : Tm} {k : Nat} (hk : k < H.length) (hok : H[k].ok) (hgo : g.ok) (hn : g.named = true) (h1 : H[k].kind ≠ 1) (h : keepA H g k = false) : Unl2 (shT H[k]) g := by
  have e : H.getD k .nil = H[k] := by rw [List.getD_eq_getElem?_getD, List.getElem?_eq_getElem hk]; rfl
  unfold keepA at h
  rw [e, hn, Bool.true_and] at h
  exact unl_out hok hgo hn h1 h
end Go.Proofs.Ytmffobadnmkpbaa
