/-
  term.Compare, walked: it lays blocks and draws, and turns nothing of what was there.
  LAYINGS of library functions at this dump, in plain words (printed by the kit's own commands).
  slices.SortFunc by term.Compare at a list of terms that the call made.
  term.Sort, walked: copies, sorted, each once.
-/
import Derived.Test.YtmffobadnmkpbaaKtmr1
import Derived.Deep.LoopGhost
import Derived.Sort.Grow
import Derived.Shelf.SlSortCmp.WholeK
import Derived.Test.YtmffobadnmkpbaaRows
import Derived.Test.YtmffobadnmkpbaaKtmr2
import Derived.Test.YtmffobadnmkpbaaKtmr4
import Derived.Sort.OwnSorted
import Derived.Test.YtmffobadnmkpbaaKtmr5
import Derived.Laws.OwnMore
namespace Go.Proofs.Ytmffobadnmkpbaa
open Go.RowKit

/-- w' is w with more blocks, and behind more draws -/
structure Gr (w w' : World) : Prop where
  bel : Below w.heap.size w w'
  dr : w.drawn ≤ w'.drawn
theorem Gr.refl (w : World) : Gr w w := ⟨Below.refl _ _, Nat.le_refl _⟩
theorem Gr.trans {a b c : World} (h : Gr a b) (k : Gr b c) : Gr a c := ⟨h.bel.trans (k.bel.mono h.bel.size), Nat.le_trans h.dr k.dr⟩
theorem gr_one (w : World) (o : Obj) : Gr w (w.alloc o) := ⟨(Below.refl _ _).alloc (Nat.le_refl _) o, Nat.le_refl _⟩
theorem gr_two (w : World) (o o2 : Obj) : Gr w ((w.alloc o).alloc o2) := (gr_one w o).trans (gr_one _ o2)
theorem gr_three (w : World) (o o2 o3 : Obj) : Gr w ((((w.alloc o).alloc o2).alloc o3).drew) := ((gr_two w o o2).trans (gr_one _ o3)).trans ⟨(Below.refl _ _).drew, Nat.le_succ _⟩
theorem Gr.grows {w w' : World} (h : Gr w w') : ∃ q os, w' = Go.Sort.grow (w.drewN q) os := by
  refine ⟨w'.drawn - w.drawn, w'.heap.extract w.heap.size w'.heap.size, ?_⟩
  have hh : w.heap ++ w'.heap.extract w.heap.size w'.heap.size = w'.heap := by
    apply Array.ext_getElem?
    intro i
    by_cases hi : i < w.heap.size
    · rw [Array.getElem?_append_left hi, h.bel.block i hi]
    · rw [Array.getElem?_append_right (by omega), Array.getElem?_extract]
      have hs := h.bel.size
      by_cases hj : i < w'.heap.size
      · rw [if_pos (by omega)]; congr 1; omega
      · rw [if_neg (by omega), Array.getElem?_eq_none (by omega)]
  have hd : w.drawn + (w'.drawn - w.drawn) = w'.drawn := by have := h.dr; omega
  have := h.bel.os
  have := h.bel.tape
  have := h.bel.output
  cases w; cases w'
  simp only [Go.Sort.grow, World.drewN] at *
  simp [*]
/-- what is asked of term.Compare at a term -/
def CmpCG (t : Tm) : Prop := ∀ (u : Tm) (va vb : Value) (w : World), TmAt (fun _ => True) w t va → TmAt (fun _ => True) w u vb →
  Calls Try.prog 23 #[tmV t va, tmV u vb] w fun e w' => e = .returned (.int .i64 (cmpT t u)) ∧ Gr w w'

set_option maxRecDepth 100000 in
set_option maxHeartbeats 1600000 in
theorem cmpFuncG_c (va vb : Value) (la lb : List Tm) (w : World) (ha : TsAt (fun _ => True) w va la) (hb : TsAt (fun _ => True) w vb lb) (hC : ∀ t ∈ la, CmpCG t) :
    Calls Try.prog 69 #[va, vb, .func (.func 23) #[] #[]] w fun e w' => e = .returned (.int .i64 (cmpL la lb)) ∧ Gr w w' := by
  obtain ⟨ao, ca, rfl, _, _⟩ := ha.shape
  obtain ⟨bo, cb, rfl, _, _⟩ := hb.shape
  have hla : la.length ≤ 9223372036854775807 := by have := ha.shape; obtain ⟨_, _, h, h1, h2⟩ := this; simp only [Value.slice.injEq, true_and] at h; obtain ⟨rfl, rfl⟩ := h; unfold maxLen at h2; omega
  have hlb : lb.length ≤ 9223372036854775807 := by have := hb.shape; obtain ⟨_, _, h, h1, h2⟩ := this; simp only [Value.slice.injEq, true_and] at h; obtain ⟨rfl, rfl⟩ := h; unfold maxLen at h2; omega
  have HA := Lib.hid ha
  have HB := Lib.hid hb
  have HC := Lib.hid hC
  clear ha hb hC
  go_enter Try.func69, Try.ntmps69
  go_wp2
  go_loopg [13] la.length (fun n i wr => ∃ k : Nat, k ≤ la.length ∧ k ≤ lb.length ∧ i = .int .i64 k ∧ Hid (n = la.length - k) ∧ Hid (cmpL la lb = cmpL (la.drop k) (lb.drop k)) ∧ Hid (Gr w wr))
  case atStart => exact ⟨0, by omega, by omega, rfl, rfl, rfl, Gr.refl _⟩
  case round =>
    obtain ⟨k, hk, hk2, rfl, HN, HE, HW⟩ := hrel
    by_cases hlt : k < la.length
    · obtain ⟨b, off, a1, rfl, -, hcc, hta⟩ := (HA.out.later HW.out.bel).get k hlt
      obtain ⟨x0, x1, x2, x3⟩ := hcc
      have CX := Lib.hid (HC.out la[k] (List.getElem_mem hlt))
      obtain ⟨ao1, cc1, rfl, _⟩ := hta.shape
      by_cases hlt2 : k < lb.length
      · obtain ⟨b2, off2, a2, rfl, -, hcc2, htb⟩ := (HB.out.later HW.out.bel).get k hlt2
        have hb2 := hcc2.lt
        obtain ⟨y0, y1, y2, y3⟩ := hcc2
        have HD := Lib.hid (cmpL_drop la lb k hlt hlt2)
        obtain ⟨ao2, cc2, rfl, _⟩ := htb.shape
        generalize la[k] = ta at x0 x1 x2 x3 hta CX HD
        generalize lb[k] = tb at y0 y1 y2 y3 htb HD
        have HTA := Lib.hid hta
        have HTB := Lib.hid htb
        have CC : Hid (∀ W, Below wr.heap.size wr W → Calls Try.prog 23 #[.agg #[.int .i64 ta.kind, .int .i64 ta.num, .string ta.name, .slice ao1 ta.args.length cc1], .agg #[.int .i64 tb.kind, .int .i64 tb.num, .string tb.name, .slice ao2 tb.args.length cc2]] W fun e w' => e = .returned (.int .i64 (cmpT ta tb)) ∧ Gr W w') := fun W h => CX.out tb _ _ W (HTA.out.later h) (HTB.out.later h)
        clear hta htb
        by_cases h0 : cmpT ta tb = 0
        · rw [h0] at CC HD
          go_wp2_with (first | (go_at_call 23; ((with_reducible refine (CC.out _ (below_two _ _ _)).mono ?_); rintro e W2 ⟨rfl, bb⟩; have BB := Lib.hid bb; clear bb)))
          go_roundg (la.length - (k + 1))
          case measure => have := HN.out; omega
          case rel => exact ⟨k + 1, by omega, by omega, by go_num, rfl, HE.out.trans (HD.out.trans (lex_zero _)), (HW.out.trans (gr_two _ _ _)).trans BB.out⟩
        · have H0 := Lib.hid h0
          generalize hv : cmpT ta tb = v at *
          have HV := Lib.hid hv
          have hvb : (v != 0) = true := by simpa using h0
          clear h0 hv
          go_wp2_with (first | (go_at_call 23; ((with_reducible refine (CC.out _ (below_two _ _ _)).mono ?_); rintro e W2 ⟨rfl, bb⟩; have BB := Lib.hid bb; clear bb)))
          go_ret
          exact ⟨ret_int (by rw [HE.out, HD.out, lex_ne _ H0.out]), (HW.out.trans (gr_two _ _ _)).trans BB.out⟩
      · have HX := Lib.hid (cmpL_gt la lb k hlt (by omega))
        go_wp2
        go_ret
        exact ⟨ret_int (by rw [HE.out, HX.out]), HW.out.trans (gr_one _ _)⟩
    · by_cases hlt2 : k < lb.length
      · have HX := Lib.hid (cmpL_end la lb k (by omega) hlt2)
        obtain rfl : k = la.length := by omega
        go_wp2
        go_ret
        exact ⟨ret_int (by rw [HE.out, HX.out]), HW.out⟩
      · have HX := Lib.hid (cmpL_end0 la lb k (by omega) (by omega))
        have e1 : la.length = k := by omega
        have e2 : lb.length = k := by omega
        go_wp2
        go_ret
        exact ⟨ret_int (by rw [HE.out, HX.out]), HW.out⟩
set_option maxRecDepth 100000 in
set_option maxHeartbeats 1600000 in
theorem compareG_step (a b : Tm) (va vb : Value) (w : World) (ha : TmAt (fun _ => True) w a va) (hb : TmAt (fun _ => True) w b vb) (hC : ∀ t ∈ a.args, CmpCG t) :
    Calls Try.prog 23 #[tmV a va, tmV b vb] w fun e w' => e = .returned (.int .i64 (cmpT a b)) ∧ Gr w w' := by
  obtain ⟨ao1, cc1, rfl, _⟩ := ha.shape
  obtain ⟨ao2, cc2, rfl, _⟩ := hb.shape
  have HZ := Lib.hid (gr_two w)
  have HA := Lib.hid ha
  have HB := Lib.hid hb
  have HC := Lib.hid hC
  clear ha hb hC
  unfold tmV
  by_cases hk : a.kind = b.kind
  · by_cases h12 : a.kind = 1 ∨ a.kind = 2
    · rw [cmpT_num hk h12]
      have hkb : b.kind = a.kind := hk.symm
      rw [hkb]
      rcases h12 with h | h
      all_goals
        rw [h]
        go_enter Try.func23, Try.ntmps23
        go_wp2_with (first | (go_at_call 66; (with_reducible refine (compareI_c _ _ _).mono ?_); rintro e w' ⟨rfl, rfl⟩))
        go_ret
        exact ⟨rfl, HZ.out _ _⟩
    by_cases h3 : a.kind = 3
    · rw [cmpT_name hk h3]
      have hkb : b.kind = a.kind := hk.symm
      rw [hkb, h3]
      go_enter Try.func23, Try.ntmps23
      go_wp2_with (first | (go_at_call 67; (with_reducible refine (compareS_c _ _ _).mono ?_); rintro e w' ⟨rfl, rfl⟩))
      go_ret
      exact ⟨rfl, HZ.out _ _⟩
    have HE := Lib.hid (cmpT_rest hk (fun h => h12 (.inl h)) (fun h => h12 (.inr h)))
    have hkb : b.kind = a.kind := hk.symm
    rw [hkb]
    have k1 : (a.kind == 1) = false := by simpa using fun h => h12 (.inl h)
    have k2 : (a.kind == 2) = false := by simpa using fun h => h12 (.inr h)
    have k3 : (a.kind == 3) = false := by simpa using h3
    have HX : Hid (∀ W, Below w.heap.size w W → Calls Try.prog 69 #[.slice ao1 a.args.length cc1, .slice ao2 b.args.length cc2, .func (.func 23) #[] #[]] W fun e w' => e = .returned (.int .i64 (cmpL a.args b.args)) ∧ Gr W w') := fun W h =>
      cmpFuncG_c _ _ _ _ W (TsAt.of_tm (HA.out.later h)) (TsAt.of_tm (HB.out.later h)) HC.out
    clear hk hkb h12 h3
    have HS := Lib.hid (box_two w (.int .i64 a.kind) (.int .i64 a.num) (.string a.name) (.slice ao1 a.args.length cc1) (.int .i64 a.kind) (.int .i64 b.num) (.string b.name) (.slice ao2 b.args.length cc2))
    generalize a.kind = k at *
    generalize cmpT a b = z at *
    go_enter Try.func23, Try.ntmps23
    go_upto_region 9 with (first | (go_at_call 66; (with_reducible refine (compareI_c _ _ _).mono ?_); rintro e w' ⟨rfl, rfl⟩))
    have s0 := HS.out _ (Below.refl _ _)
    go_region_held3 (fun W' => W'.cell? ⟨w.heap.size, 2, none⟩ = some (.string a.name) ∧ W'.cell? ⟨w.heap.size, 3, none⟩ = some (.slice ao1 a.args.length cc1) ∧ W'.cell? ⟨w.heap.size + 1, 2, none⟩ = some (.string b.name) ∧ W'.cell? ⟨w.heap.size + 1, 3, none⟩ = some (.slice ao2 b.args.length cc2)) ((first | exact s0 | (refine HS.out _ ?_; go_grown)))
      (first
        | (go_at_call 66; (with_reducible refine (compareI_c _ _ _).mono ?_); rintro e w' ⟨rfl, rfl⟩)
        | (go_at_call 67; (with_reducible refine (compareS_c _ _ _).mono ?_); rintro e w' ⟨rfl, rfl⟩)
        | (go_at_call 68; (refine (or_c _ (cmpI a.args.length b.args.length) (cmpS a.name b.name) _ ?_ ?_).mono ?_); (· simp [go_sem]); (· simp [go_sem]); rintro e w' ⟨rfl, rfl⟩))
    clear s0
    generalize lex (cmpI a.args.length b.args.length) (cmpS a.name b.name) = c at *
    have HG := Lib.hid (gr_three w)
    by_cases hc : c = 0
    · subst hc
      go_wp2_with (first | (go_at_call 69; ((with_reducible refine (HX.out _ (HG.out _ _ _).bel).mono ?_); rintro e W2 ⟨rfl, bb⟩; have BB := Lib.hid bb; clear bb)))
      go_ret
      exact ⟨ret_int HE.out.symm, (HG.out _ _ _).trans BB.out⟩
    · have HN := Lib.hid hc
      have hcb : (c != 0) = true := by simpa using hc
      clear hc
      go_wp2
      go_ret
      exact ⟨ret_int (HE.out.trans (lex_ne _ HN.out)).symm, HG.out _ _ _⟩
  · rw [cmpT_kind hk]
    have hkb : (a.kind != b.kind) = true := by simpa using hk
    clear hk
    go_enter Try.func23, Try.ntmps23
    go_wp2_with (first | (go_at_call 66; (with_reducible refine (compareI_c _ _ _).mono ?_); rintro e w' ⟨rfl, rfl⟩))
    go_ret
    exact ⟨rfl, HZ.out _ _⟩
theorem compareG_all (t : Tm) : CmpCG t := by
  induction t using Tm.ind with
  | h4 s l ih => exact fun u va vb w ha hb => compareG_step _ u va vb w ha hb ih
  | _ => exact fun u va vb w ha hb => compareG_step _ u va vb w ha hb (by simp [Tm.args])
theorem compareG_c (a b : Tm) (va vb : Value) (w : World) (ha : TmAt (fun _ => True) w a va) (hb : TmAt (fun _ => True) w b vb) :
    Calls Try.prog 23 #[tmV a va, tmV b vb] w fun e w' => e = .returned (.int .i64 (cmpT a b)) ∧ Gr w w' := compareG_all a b va vb w ha hb
end Go.Proofs.Ytmffobadnmkpbaa
namespace Go.Proofs.Ytmffobadnmkpbaa
open Go.Shelf
def Try.sortTm_ren : Go.Shelf.Ren := ⟨fun | 6 => 77 | 15 => 113 | 14 => 112 | 28 => 144 | 29 => 145 | 20 => 136 | 21 => 137 | 22 => 138 | 23 => 139 | 24 => 140 | 25 => 141 | 26 => 142 | 27 => 143 | 46 => 161 | 47 => 162 | 48 => 163 | 49 => 164 | 50 => 165 | 57 => 179 | n => n, fun | 22 => 22 | 24 => 24 | 25 => 33 | 3 => 3 | 39 => 131 | 0 => 0 | 53 => 159 | 55 => 161 | 4 => 4 | 46 => 153 | 45 => 152 | 50 => 117 | 5 => 5 | 9 => 9 | 66 => 173 | 70 => 177 | 76 => 191 | 77 => 192 | n => n, fun | n => n⟩
theorem Try.sortTm : Go.Proofs.SlLaysF0.n6 Try.prog Try.sortTm_ren := {
  mixed := by kernel_rfl
  f6 := ⟨Try.f77.name, by decide, Try.func77.trans (congrArg some (by kernel_rfl))⟩
  f14 := ⟨Try.f112.name, by decide, Try.func112.trans (congrArg some (by kernel_rfl))⟩
  f15 := Try.func113.trans (congrArg some (by kernel_rfl))
  f20 := ⟨Try.f136.name, by decide, Try.func136.trans (congrArg some (by kernel_rfl))⟩
  f21 := ⟨Try.f137.name, by decide, Try.func137.trans (congrArg some (by kernel_rfl))⟩
  f22 := ⟨Try.f138.name, by decide, Try.func138.trans (congrArg some (by kernel_rfl))⟩
  f23 := ⟨Try.f139.name, by decide, Try.func139.trans (congrArg some (by kernel_rfl))⟩
  f24 := ⟨Try.f140.name, by decide, Try.func140.trans (congrArg some (by kernel_rfl))⟩
  f25 := ⟨Try.f141.name, by decide, Try.func141.trans (congrArg some (by kernel_rfl))⟩
  f26 := ⟨Try.f142.name, by decide, Try.func142.trans (congrArg some (by kernel_rfl))⟩
  f27 := ⟨Try.f143.name, by decide, Try.func143.trans (congrArg some (by kernel_rfl))⟩
  f28 := Try.func144.trans (congrArg some (by kernel_rfl))
  f29 := Try.func145.trans (congrArg some (by kernel_rfl))
  f46 := ⟨Try.f161.name, by decide, Try.func161.trans (congrArg some (by kernel_rfl))⟩
  f47 := Try.func162.trans (congrArg some (by kernel_rfl))
  f48 := Try.func163.trans (congrArg some (by kernel_rfl))
  f49 := ⟨Try.f164.name, by decide, Try.func164.trans (congrArg some (by kernel_rfl))⟩
  f50 := ⟨Try.f165.name, by decide, Try.func165.trans (congrArg some (by kernel_rfl))⟩
  f57 := ⟨Try.f179.name, by decide, Try.func179.trans (congrArg some (by kernel_rfl))⟩
  t0 := Try.underlying0
  a0 := Try.isAgg0
  z0 := Try.sizeOf0
  v0 := Try.zeroValue0
  t3 := Try.underlying3
  a3 := Try.isAgg3
  z3 := Try.sizeOf3
  v3 := Try.zeroValue3
  t4 := Try.underlying4
  a4 := Try.isAgg4
  z4 := Try.sizeOf4
  v4 := Try.zeroValue4
  t5 := Try.underlying5
  a5 := Try.isAgg5
  z5 := Try.sizeOf5
  v5 := Try.zeroValue5
  t9 := Try.underlying9
  a9 := Try.isAgg9
  z9 := Try.sizeOf9
  v9 := Try.zeroValue9
  t22 := Try.underlying22
  a22 := Try.isAgg22
  z22 := Try.sizeOf22
  v22 := Try.zeroValue22
  t25 := Try.underlying33
  a25 := Try.isAgg33
  z25 := Try.sizeOf33
  v25 := Try.zeroValue33
  t39 := Try.underlying131
  a39 := Try.isAgg131
  z39 := Try.sizeOf131
  v39 := Try.zeroValue131
  t45 := Try.underlying152
  a45 := Try.isAgg152
  z45 := Try.sizeOf152
  v45 := Try.zeroValue152
  t46 := Try.underlying153
  a46 := Try.isAgg153
  z46 := Try.sizeOf153
  v46 := Try.zeroValue153
  t50 := Try.underlying117
  a50 := Try.isAgg117
  z50 := Try.sizeOf117
  v50 := Try.zeroValue117
  t53 := Try.underlying159
  a53 := Try.isAgg159
  z53 := Try.sizeOf159
  v53 := Try.zeroValue159
  t55 := Try.underlying161
  a55 := Try.isAgg161
  z55 := Try.sizeOf161
  v55 := Try.zeroValue161
  t66 := Try.underlying173
  a66 := Try.isAgg173
  z66 := Try.sizeOf173
  v66 := Try.zeroValue173
  t70 := Try.underlying177
  a70 := Try.isAgg177
  z70 := Try.sizeOf177
  v70 := Try.zeroValue177
  t76 := Try.underlying191
  a76 := Try.isAgg191
  z76 := Try.sizeOf191
  v76 := Try.zeroValue191
  t77 := Try.underlying192
  a77 := Try.isAgg192
  z77 := Try.sizeOf192
  v77 := Try.zeroValue192 }

end Go.Proofs.Ytmffobadnmkpbaa
namespace Go.Proofs.Ytmffobadnmkpbaa
open Go.RowKit Go.Sort Go.Lib

/-- a term that lies outside block g -/
abbrev TmIn (g : Nat) (w : World) := { x : Tm × Value // TmAt (fun b => b ≠ g) w x.1 x.2 }
instance (g : Nat) (w : World) : Inhabited (TmIn g w) := ⟨⟨zeroTV, .leaf rfl⟩⟩
def encT {g : Nat} {w : World} (x : TmIn g w) : List Value := tmC x.1
def cfT {g : Nat} {w : World} (x y : TmIn g w) : Int := cmpT x.1.1 y.1.1
theorem ltT {g : Nat} {w : World} (x y : TmIn g w) : ltOf cfT x y = decide (cmpT x.1.1 y.1.1 < 0) := rfl
theorem swoT (g : Nat) (w : World) : SWO (ltOf (cfT (g := g) (w := w))) where
  irrefl x := by rw [ltT]; simp [cmpT_self]
  trans x y z h1 h2 := by rw [ltT] at *; exact decide_eq_true (cmp_lt_lt (of_decide_eq_true h1) (of_decide_eq_true h2))
  ntrans x y z h1 h2 := by
    rw [ltT] at *
    have h1 := of_decide_eq_false h1
    have h2 := of_decide_eq_false h2
    refine decide_eq_false fun h => ?_
    have e1 := cmpT_neg x.1.1 y.1.1
    have e2 := cmpT_neg y.1.1 z.1.1
    have e3 := cmpT_neg x.1.1 z.1.1
    have := (t3_cmpT z.1.1 y.1.1 x.1.1 (by omega) (by omega)).1
    omega
theorem flat_tm {g : Nat} {w : World} (d : Array (TmIn g w)) : (flatK encT 4 d).toList = tmCs (d.toList.map Subtype.val) := by
  apply List.ext_getElem?
  intro t
  by_cases ht : t < d.size * 4
  · have h1 : (flatK encT 4 d)[t]! = (encT d[t / 4]!)[t % 4]! := get_flatK encT 4 d t ht
    have h2 : (flatK encT 4 d)[t]? = some (flatK encT 4 d)[t]! := by rw [getElem?_pos _ t (by simpa using ht), getElem!_pos _ t (by simpa using ht)]
    rw [Array.getElem?_toList, h2, h1]
    have hd : t / 4 < (d.toList.map Subtype.val).length := by simp; omega
    have q := tmCs_at (d.toList.map Subtype.val) (t / 4) hd (t % 4) (by omega)
    rw [show t / 4 * 4 + t % 4 = t by omega] at q
    rw [q]
    have e : (d[t / 4]!).1 = (d.toList.map Subtype.val)[t / 4] := by rw [getElem!_pos d (t / 4) (by simpa using hd)]; simp
    have hm : t % 4 = 0 ∨ t % 4 = 1 ∨ t % 4 = 2 ∨ t % 4 = 3 := by omega
    unfold encT
    rw [e]
    rcases hm with hm | hm | hm | hm <;> rw [hm] <;> rfl
  · rw [List.getElem?_eq_none (by simp; omega), List.getElem?_eq_none (by rw [tmCs_len]; simp; omega)]
theorem holds_tm {w W : World} {g : Nat} {cur : Array Value} {e : TypeId} {d : Array (TmIn g W)} (hb : w.heap[g]? = some (.cells cur e (0, 0))) (ht : cur.toList.take (d.size * 4) = tmCs (d.toList.map Subtype.val)) : HoldsK encT 4 w g 0 d := by
  intro j hj
  have hj' : j < d.size * 4 := by simpa using hj
  refine ⟨?_, by simp [World.frozen?, hb]⟩
  have h1 : (cur.toList.take (d.size * 4))[j]? = (flatK encT 4 d).toList[j]? := by rw [ht, flat_tm]
  rw [List.getElem?_take_of_lt hj'] at h1
  simp only [World.cell?, hb, Nat.zero_add, Option.isSome_none, Bool.false_eq_true, if_false, id]
  rw [← Array.getElem?_toList, h1, Array.getElem?_toList, getElem?_pos _ j hj, getElem!_pos _ j hj]
theorem heap_tm {w W : World} {g n : Nat} {os : Array Obj} {cur : Array Value} {e : TypeId} {fr : Nat × Nat} (d : Array (TmIn g W)) (hb : w.heap[g]? = some (.cells cur e fr)) :
    (sortWorldK encT 4 w g 0 n d os).heap[g]? = some (.cells (putCells id 0 (flatK encT 4 d) cur) e fr) := by
  have hg : g < w.heap.size := (Array.getElem?_eq_some_iff.1 hb).1
  unfold sortWorldK putRowK
  rw [heap_grow_old _ _ (by simpa using hg)]
  simp [putRow, mapBlock, Sort.ahead, Array.getElem?_modify, hb, onCells]
theorem grown_tm {w W : World} {g n : Nat} {os : Array Obj} (d : Array (TmIn g W)) : w.grownBy (sortWorldK encT 4 w g 0 n d os) (some g) := by
  refine ⟨rfl, rfl, rfl, by simp [sortWorldK, putRowK], fun k hk hne => ?_⟩
  unfold sortWorldK putRowK
  rw [heap_grow_old _ _ (by simpa using hk)]
  have : g ≠ k := fun e => hne (by rw [e])
  simp [putRow, mapBlock, Sort.ahead, Array.getElem?_modify, this]
theorem take_put_tm {W : World} {g : Nat} (cur : Array Value) (d : Array (TmIn g W)) (h : d.size * 4 ≤ cur.size) : (putCells id 0 (flatK encT 4 d) cur).toList.take (d.size * 4) = tmCs (d.toList.map Subtype.val) := by
  rw [← flat_tm]
  apply List.ext_getElem?
  intro j
  by_cases hj : j < d.size * 4
  · rw [List.getElem?_take_of_lt hj, Array.getElem?_toList, Array.getElem?_toList, getElem?_pos (flatK encT 4 d) j (by simpa using hj)]
    simp [putCells, hj, show j < cur.size by omega]
  · rw [List.getElem?_take_eq_none (by omega), List.getElem?_eq_none (by simp; omega)]
theorem Try.tmLays (g size : Nat) (w : World) : CmpLays Try.prog 23 #[] (encT (g := g) (w := w)) 4 cfT g 0 size w := fun m os dk _ x y => by
  have mv : ∀ z : TmIn g w, TmAt (fun _ => True) (sortWorldK encT 4 w g 0 m dk os) z.1.1 z.1.2 := fun z =>
    z.2.mono fun b hb hp => ⟨trivial, (grown_tm (n := m) (os := os) dk).block b hb (fun e => hp (Option.some.inj e))⟩
  refine (compareG_c x.1.1 y.1.1 x.1.2 y.1.2 _ (mv x) (mv y)).mono ?_
  rintro e w' ⟨he, hg⟩
  exact ⟨he, hg.grows⟩
/-- slices.SortFunc by Compare: the same row holds the same terms, sorted -/
theorem sortT_own {p : Nat → Prop} {base g cap : Nat} {L : List (Tm × Value)} {w : World} (h : OwnTs p base w (.slice (some ⟨g, 0, none⟩) L.length cap) L) (hbase : base ≤ w.heap.size) (hl : L.length ≤ 4096) :
    Calls Try.prog 77 #[.slice (some ⟨g, 0, none⟩) L.length cap, .func (.func 23) #[] #[]] w fun e w' => e = .returned (.tuple #[]) ∧
      ∃ L' : List (Tm × Value), L'.length = L.length ∧ L'.Perm L ∧ Sorted (L'.map Prod.fst) ∧ OwnTs p base w' (.slice (some ⟨g, 0, none⟩) L.length cap) L' ∧ Below base w w' := by
  have hge := ownBlock_ge h.own
  rcases h.own.2 with ⟨he, _⟩ | ⟨g', cap', cur, he, hbg, hb, h1, h2, h3, h4⟩
  · cases he
  simp only [Value.slice.injEq, Option.some.injEq, Addr.mk.injEq, and_true, true_and] at he
  obtain ⟨rfl, rfl⟩ := he
  have hP : ∀ x ∈ L, TmAt (fun b => b ≠ g) w x.1 x.2 := fun x hx => (h.tms x hx).mono fun b _ hp => ⟨fun e => hp.1 (by simp [Value.ownBlock, e]), rfl⟩
  obtain ⟨d, hd⟩ : ∃ d : Array (TmIn g w), d.toList.map Subtype.val = L := ⟨(L.attachWith _ hP).toArray, by simp; exact List.attach_map_subtype_val L⟩
  have hds : d.size = L.length := by rw [← hd]; simp
  have eg : ∀ args w, (callFunc 23 args).run Try.prog w = .ok (.enter 23 args) w := enters_of Try.func23 (by kernel_rfl) rfl
  have hcon := AnyQ.slices_SortFunc Try.sortTm 4 Try.isAgg24 Try.sizeOf24 (encT (g := g) (w := w)) (fun _ => rfl)
    (fun x v hv => by
      obtain ⟨a, c, ha, _⟩ := x.2.shape
      simp only [encT, tmC, List.mem_cons, List.not_mem_nil, or_false] at hv
      rcases hv with rfl | rfl | rfl | rfl
      · rfl
      · rfl
      · rfl
      · rw [ha]; rfl) cfT (swoT g w)
    23 #[] g 0 cap d w eg (Try.tmLays g _ w) (holds_tm hb (by rw [hds, hd]; exact h4)) (Array.getElem?_eq_some_iff.1 hb).1 (by omega)
  change Calls Try.prog 77 _ _ _ at hcon
  rw [hds] at hcon
  refine hcon.mono ?_
  rintro e w' ⟨rfl, d', n, os, hperm, hsort, rfl⟩
  obtain ⟨hs1, _, hs2⟩ := hperm
  rw [Array.extract_eq_self_of_le (by omega), Array.extract_eq_self_of_le (by omega)] at hs2
  have hgb := grown_tm (w := w) (n := n) (os := os) d'
  have hpm : (d'.toList.map Subtype.val).Perm L := by rw [← hd]; exact hs2.map _
  have hl' : (d'.toList.map Subtype.val).length = L.length := hpm.length_eq
  refine ⟨rfl, d'.toList.map Subtype.val, hl', hpm, ?_, ⟨?_, fun x hx => ?_⟩, (Below.refl base w).grown hgb hbase hge⟩
  · unfold Sorted
    rw [List.pairwise_iff_getElem]
    intro i j hi hj hij
    simp only [List.length_map, Array.length_toList] at hi hj
    have := hsort i j (by omega) hij (by omega)
    rw [ltT] at this
    have e1 : (d'[i]!).1 = d'.toList[i].1 := by rw [getElem!_pos d' i hi]; simp
    have e2 : (d'[j]!).1 = d'.toList[j].1 := by rw [getElem!_pos d' j hj]; simp
    rw [e1, e2] at this
    have h5 := of_decide_eq_false this
    simp only [List.getElem_map]
    have := cmpT_neg (d'.toList[i]).1.1 (d'.toList[j]).1.1
    omega
  · rw [hl']
    refine ⟨by rw [tmCs_len, hl'], .inr ⟨g, cap, _, rfl, hbg, heap_tm _ hb, h1, h2, by simp [putCells, h3], ?_⟩⟩
    have := take_put_tm cur d' (by omega)
    rw [hs1, hds] at this
    exact this
  · exact (h.tms x (hpm.mem_iff.1 hx)).mono fun b hb hp => ⟨hp, hgb.block b hb (fun e => hp.1 (by simpa [Value.ownBlock] using e.symm))⟩
end Go.Proofs.Ytmffobadnmkpbaa
namespace Go.Proofs.Ytmffobadnmkpbaa
open Go.RowKit

theorem mapTs_id (l : List Tm) : mapTs .var l = l := by
  rw [mapTs_eq]
  conv => rhs; rw [← List.map_id l]
  exact List.map_congr_left fun t _ => by simpa using mapT_id t
theorem sorted_perm_dd {l : List Tm} {Q L' : List (Tm × Value)} (hQ : Q.map Prod.fst = l) (hp : L'.Perm Q) {R : List Tm} (h : Dd (L'.map Prod.fst) L'.length R) : Dd l l.length R := by
  have hpm : (L'.map Prod.fst).Perm l := hQ ▸ hp.map _
  refine ⟨h.1, fun t => ?_⟩
  have h2 := h.2 t
  rw [show L'.length = (L'.map Prod.fst).length by simp, List.take_length] at h2
  rw [List.take_length, h2, hpm.mem_iff]
set_option maxRecDepth 100000 in
set_option maxHeartbeats 6400000 in
theorem termSort_c (va : Value) (l : List Tm) (w : World) (hl : TsAt (fun _ => True) w va l) (hok : ∀ t ∈ l, t.ok ∧ t.size ≤ 1000000) (hn : l.length ≤ 4096) :
    Calls Try.prog 31 #[va] w (RetSrt l w) := by
  obtain ⟨ao, cc, rfl, _, _⟩ := hl.shape
  obtain ⟨i0, hi, hz0, hz1, hz2⟩ := info_parts Try.infoTerm
  have HT := Lib.hid hl
  have HOK := Lib.hid hok
  obtain ⟨W3, hmk, ho3, hg3⟩ := run_make_full (P := Try.prog) (w := w) w.heap.size 22 24 i0 (.agg #[.int .i64 0, .int .i64 0, .string ByteArray.empty, .slice none 0 0]) 4 Try.underlying22 hi hz0 hz1 .i64 .i64 l.length (by rw [hz2]; omega) (by unfold maxLen; omega) (by omega)
  have N0 : Hid (ML w.heap.size w.heap.size l.length w W3 (List.replicate l.length zeroTV)) := by
    have hb : Below w.heap.size w W3 := (Below.refl _ w).grown hg3 (by omega) (by simp)
    refine ⟨⟨?_, fun x hx => ?_⟩, by simp, hb, by have := hb.size; omega⟩
    · rw [tmCs_rep] at ho3; simpa using ho3
    · obtain ⟨-, rfl⟩ := List.mem_replicate.1 hx; exact .leaf rfl
  clear hl hok ho3 hg3
  go_enter Try.func31, Try.ntmps31
  go_upto_region 2 with (fail)
  clear hmk
  go_wp2
  go_loopg [11] l.length (fun n i wr => ∃ (k : Nat) (Q : List (Tm × Value)), k ≤ l.length ∧ i = .int .i64 k ∧ Hid (n = l.length - k) ∧ Hid (ML w.heap.size w.heap.size l.length w wr Q) ∧ Hid (Q.map Prod.fst = fillT .var l k))
  case atStart => exact ⟨0, _, by omega, rfl, rfl, N0, Lib.hid (by rw [fillT_zero, List.map_replicate]; rfl)⟩
  case round =>
    obtain ⟨k, Q, hk, rfl, HN, HW, HQ⟩ := hrel
    have HBw : Hid (Below w.heap.size w wr) := HW.out.bel
    have hwz := HW.out.sz
    by_cases hlt : k < l.length
    · have hki : (k : Int) < l.length := by omega
      obtain ⟨b, off, a1, rfl, -, hcc, hta⟩ := (HT.out.later HBw.out).get k hlt
      obtain ⟨p1, q1, rfl, _⟩ := hta.shape
      have hbl := hcc.lt
      have hou := HOK.out l[k] (List.getElem_mem hlt)
      have HQ2 : Hid (∀ q, (Q.set k (l[k], q)).map Prod.fst = fillT .var l (k + 1)) := fun q => by rw [List.map_set, HQ.out, fillT_step .var l k hlt, mapT_id]
      generalize l[k] = u at *
      obtain ⟨c0, c1, c2, c3⟩ := hcc
      have CC : Hid (∀ W, Below wr.heap.size wr W → Calls Try.prog 74 #[.agg #[.int .i64 u.kind, .int .i64 u.num, .string u.name, .slice p1 u.args.length q1]] W fun e w' => ∃ pa qa, e = .returned (.agg #[.int .i64 u.kind, .int .i64 u.num, .string u.name, .slice pa u.args.length qa]) ∧ TmAt (fun b => wr.heap.size ≤ b) w' u (.slice pa u.args.length qa) ∧ Below wr.heap.size wr w') := fun W h =>
        (copied_c u _ W (hta.later h) hou.1 hou.2).mono fun e w' ⟨pa, qa, h1, h2, h3⟩ => ⟨pa, qa, h1, h2.mono fun b _ hp => ⟨Nat.le_trans h.size hp, rfl⟩, h.trans (h3.mono h.size)⟩
      have hgz : w.heap.size < wr.heap.size := by obtain ⟨v0, v1, v2, v3, ⟨y0, -⟩, -⟩ := HW.out.cells k hlt; exact World.block_lt_of_cell? wr ⟨_, _, none⟩ y0
      have AL : Hid (∀ o, Below wr.heap.size wr (wr.alloc o)) := fun o => (Below.refl _ _).alloc (Nat.le_refl _) o
      clear hta hou
      go_wp2_with (first | (go_at_call 74; ((with_reducible refine (CC.out _ ?_).mono ?_); (· go_grown); rintro e W2 ⟨pa, qa, rfl, tg, bb⟩; have N2 := Lib.hid (HW.out.below bb); have TG := Lib.hid tg; obtain ⟨v0, v1, v2, v3, ⟨y0, y1, y2, y3⟩, hfz⟩ := N2.out.cells k hlt; have g0 := hfz (k * 4); have g1 := hfz (k * 4 + 1); have g2 := hfz (k * 4 + 2); have g3 := hfz (k * 4 + 3); clear bb tg hfz)))
      all_goals
        go_roundg (l.length - (k + 1))
        case measure => have := HN.out; omega
        case rel => exact ⟨k + 1, _, by omega, by go_num, rfl, Lib.hid (N2.out.store (Nat.le_refl _) hlt (TG.out.mono fun b _ hp => ⟨⟨by omega, by omega⟩, rfl⟩)), HQ2.out _⟩
    · obtain rfl : k = l.length := by omega
      have HQ3 : Hid (Q.map Prod.fst = l) := by have h := HQ.out; rw [fillT_all, mapTs_id] at h; exact h
      have hQl := HW.out.len
      have CS : Hid (Calls Try.prog 77 #[.slice (some ⟨w.heap.size, 0, none⟩) l.length l.length, .func (.func 23) #[] #[]] wr fun e w' => e = .returned (.tuple #[]) ∧ ∃ L' : List (Tm × Value), L'.length = l.length ∧ L'.Perm Q ∧ Sorted (L'.map Prod.fst) ∧ OwnTs (fun b => w.heap.size ≤ b) w.heap.size w' (.slice (some ⟨w.heap.size, 0, none⟩) l.length l.length) L' ∧ Below w.heap.size wr w') := by
        have h := sortT_own (L := Q) (cap := l.length) (by rw [hQl]; exact HW.out.own) hwz (by rw [hQl]; exact hn)
        rw [hQl] at h
        exact h
      clear hQl
      go_wp2_with (first
        | (go_at_call 77; ((with_reducible refine CS.out.mono ?_); rintro e W4 ⟨rfl, L', hl', hp', hs', ho', hb'⟩; have C4 := Lib.hid (compactT_c (n := l.length) (cap := l.length) (h := w.heap.size) (g := w.heap.size) (w := W4) L' hl' hn (Nat.le_trans hwz hb'.size) ho' hs'); have HP := Lib.hid hp'; have B4 := Lib.hid (HW.out.bel.trans hb'); have HL' := Lib.hid hl'; clear hl' hp' hs' ho' hb'))
        | (go_at_call 78; ((with_reducible refine C4.out.mono ?_); rintro e W5 ⟨bo, bc, R, rfl, hR, hD, hB⟩; have HR := Lib.hid hR; have HD := Lib.hid hD; have B5 := Lib.hid (B4.out.trans hB); clear hR hD hB)))
      go_ret
      exact ⟨bo, bc, R, rfl, HR.out.mono fun _ _ _ => ⟨trivial, rfl⟩, sorted_perm_dd HQ3.out HP.out HD.out, B5.out⟩
end Go.Proofs.Ytmffobadnmkpbaa
