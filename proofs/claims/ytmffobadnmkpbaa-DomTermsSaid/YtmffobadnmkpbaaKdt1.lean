/-
  A set's term, and the set that a term says. In plain Lean.
  An integer's, an end's, a pair's term, of the program and of the document, walked.
  dom.gather and dom.Of, walked.
  dom.gather at two terms joined, walked.
-/
import Derived.Test.YtmffobadnmkpbaaKdom1
import Derived.Test.YtmffobadnmkpbaaKpars1
import Derived.Test.YtmffobadnmkpbaaKtmd2
import Derived.Test.YtmffobadnmkpbaaKtmd4
import Derived.Test.YtmffobadnmkpbaaKtmd5
import Derived.Test.YtmffobadnmkpbaaKdomrpa1
import Derived.BigRegion
import Derived.RegionTactic
namespace Go.Proofs.Ytmffobadnmkpbaa

def dotS : ByteArray := ⟨#[46, 46]⟩
def orS : ByteArray := ⟨#[92, 47]⟩
def infS : ByteArray := ⟨#[105, 110, 102]⟩
def supS : ByteArray := ⟨#[115, 117, 112]⟩
def limT (z : Int) : Tm := if z = -200 then .atom infS else if z = 200 then .atom supS else .int z
def pairT (s : ByteArray) (a b : Tm) : Tm := .cmp s [a, b]
def rgT (r : Rg) : Tm := if r.1 < r.2 then pairT dotS (limT r.1) (limT r.2) else .int r.1
/-- the term of the first k ranges -/
def outT (l : List Rg) : Nat → Tm
  | 0 => .nil
  | k + 1 => if k = 0 then rgT (l.getD k (0, 0)) else pairT orS (outT l k) (rgT (l.getD k (0, 0)))
def emptyT : Tm := pairT dotS (.int 1) (.int 0)
def termD (l : List Rg) : Tm := if l.length = 0 then emptyT else outT l l.length
def endT (t : Tm) : Option Int := if t.kind = 2 then some t.num else if t.kind = 3 ∧ t.name.toList = infS.toList then some (-200) else if t.kind = 3 ∧ t.name.toList = supS.toList then some 200 else none
/-- the ranges that a term says -/
def gath : Tm → Option (List Rg)
  | .int z => some [(z, z)]
  | .cmp s [a, b] => if s.toList = orS.toList then (match gath a, gath b with | some x, some y => some (x ++ y) | _, _ => none)
      else if s.toList = dotS.toList then (match endT a, endT b with | some lo, some hi => some [(lo, hi)] | _, _ => none) else none
  | _ => none
def ofD (t : Tm) : Option (List Rg) := (gath t).map norm
theorem lit_toList (l : List UInt8) : (⟨l.toArray⟩ : ByteArray).toList = l := by
  rw [ByteArray.toList_eq]
theorem orS_list : orS.toList = [92, 47] := lit_toList [92, 47]
theorem dotS_list : dotS.toList = [46, 46] := lit_toList [46, 46]
theorem infS_list : infS.toList = [105, 110, 102] := lit_toList [105, 110, 102]
theorem supS_list : supS.toList = [115, 117, 112] := lit_toList [115, 117, 112]
theorem end_lim (z : Int) : endT (limT z) = some z := by
  unfold limT endT
  split
  · subst z; simp [Tm.kind, Tm.name]
  · split
    · subst z; simp [Tm.kind, Tm.name, supS_list, infS_list]
    · simp [Tm.kind, Tm.num]
theorem gath_rg {r : Rg} (h : r.1 ≤ r.2) : gath (rgT r) = some [r] := by
  obtain ⟨a, b⟩ := r
  unfold rgT
  split
  · simp [pairT, gath, dotS_list, orS_list, end_lim]
  · have : a = b := by simp_all; omega
    subst this; simp [gath]
theorem gath_out {l : List Rg} (h : ∀ p ∈ l, p.1 ≤ p.2) : ∀ k, k < l.length → gath (outT l (k + 1)) = some (l.take (k + 1))
  | 0, hk => by
    simp only [outT, if_true]
    have e : l.getD 0 (0, 0) = l[0] := by rw [List.getD_eq_getElem?_getD, List.getElem?_eq_getElem hk]; rfl
    rw [e, gath_rg (h _ (List.getElem_mem hk)), List.take_succ_eq_append_getElem hk]; rfl
  | k + 1, hk => by
    rw [outT, if_neg (by omega)]
    have e : l.getD (k + 1) (0, 0) = l[k + 1] := by rw [List.getD_eq_getElem?_getD, List.getElem?_eq_getElem hk]; rfl
    rw [e]
    simp only [pairT, gath, if_true]
    rw [gath_out h k (by omega), gath_rg (h _ (List.getElem_mem hk))]
    simp only [Option.some.injEq]
    rw [List.take_succ_eq_append_getElem hk]
theorem norm_empty : norm [(1, 0)] = [] := (is_canon (rs := []) (S := memL [(1, 0)]) trivial (fun n _ _ => by
  rw [memL_cons, memL_nil]
  by_cases h : 1 ≤ n <;> simp [h] <;> omega)).symm
theorem ofD_term {l : List Rg} (h : Normal l) : ofD (termD l) = some l := by
  unfold ofD termD
  split
  · rename_i h0
    have : l = [] := List.eq_nil_of_length_eq_zero h0
    subst this
    simp [emptyT, pairT, gath, dotS_list, orS_list, endT, Tm.kind, Tm.num, norm_empty]
  · rename_i h0
    obtain ⟨k, hk⟩ : ∃ k, l.length = k + 1 := ⟨l.length - 1, by omega⟩
    rw [hk, gath_out (fun p hp => (h.bounds p hp).2.1) k (by omega), ← hk, List.take_length]
    simp [norm_of_normal h]
theorem joinL_norm (a b : List Rg) : joinL (norm a) (norm b) = joinL a b := by
  refine is_canon (S := fun n => memL a n || memL b n) (canon_normal _) (fun n h1 h2 => ?_)
  have hd : inD n = true := by unfold inD; simp; omega
  unfold joinL
  rw [canon_mem, memL_norm, memL_norm, hd]
  simp [h1, h2]
theorem outT_kind (l : List Rg) (k : Nat) : (outT l (k + 1)).kind ≠ 0 := by
  have hr : ∀ r, (rgT r).kind ≠ 0 := fun r => by unfold rgT; split <;> simp [pairT, Tm.kind]
  unfold outT
  split
  · exact hr _
  · simp [pairT, Tm.kind]
theorem limT_args (z : Int) : (limT z).args = [] := by unfold limT; split <;> (try split) <;> rfl
theorem limT_size (z : Int) : (limT z).size = 1 := by unfold limT; split <;> (try split) <;> simp [Tm.size]
theorem rgT_size (r : Rg) : (rgT r).size ≤ 3 := by
  unfold rgT
  split
  · simp [pairT, Tm.size, limT_size, Tm.sizes]
  · simp [Tm.size]
theorem outT_size (l : List Rg) : ∀ k, (outT l k).size ≤ 4 * k + 1
  | 0 => by simp [outT, Tm.size]
  | k + 1 => by
    have h1 := rgT_size (l.getD k (0, 0))
    have h2 := outT_size l k
    unfold outT
    split
    · omega
    · simp only [pairT, Tm.size, Tm.sizes]; omega
theorem termD_size {l : List Rg} (h : l.length ≤ 201) : (termD l).size ≤ 2001 := by
  unfold termD
  split
  · simp [emptyT, pairT, Tm.size, Tm.sizes]
  · have := outT_size l l.length; omega
/-- how many ranges a term says -/
theorem gath_len (t : Tm) : ∀ L, gath t = some L → L.length ≤ t.size := by
  induction t using Tm.ind with
  | h4 s l ih =>
    intro L hL
    match l, ih, hL with
    | [], _, hL => simp [gath] at hL
    | [_], _, hL => simp [gath] at hL
    | [a, b], ih, hL =>
      simp only [gath] at hL
      have ha := ih a (by simp)
      have hb := ih b (by simp)
      split at hL
      · cases hga : gath a with
        | none => rw [hga] at hL; cases hL
        | some x => cases hgb : gath b with
          | none => rw [hga, hgb] at hL; cases hL
          | some y =>
            rw [hga, hgb] at hL
            simp only [Option.some.injEq] at hL
            subst hL
            have h1 := ha _ hga
            have h2 := hb _ hgb
            simp only [List.length_append, Tm.size, Tm.sizes]; omega
      · split at hL
        · split at hL
          · simp only [Option.some.injEq] at hL; subst hL; simp [Tm.size]
          · cases hL
        · cases hL
    | _ :: _ :: _ :: _, _, hL => simp [gath] at hL
  | _ => intro L hL; first | (simp [gath] at hL; done) | (simp only [gath, Option.some.injEq] at hL; subst hL; simp [Tm.size])
end Go.Proofs.Ytmffobadnmkpbaa
namespace Go.Proofs.Ytmffobadnmkpbaa
open Go.RowKit

/-- what returns a term, its parts wherever they lie -/
def RetTmA (G : Tm) (w : World) (e : Ending) (w' : World) : Prop := ∃ ao cap, e = .returned (.agg #[.int .i64 G.kind, .int .i64 G.num, .string G.name, .slice ao G.args.length cap]) ∧ TmAt (fun _ => True) w' G (.slice ao G.args.length cap) ∧ Below w.heap.size w w'
/-- what returns a term, its parts in such blocks or in new ones -/
def RetTmP (p : Nat → Prop) (G : Tm) (w : World) (e : Ending) (w' : World) : Prop := ∃ ao cap, e = .returned (.agg #[.int .i64 G.kind, .int .i64 G.num, .string G.name, .slice ao G.args.length cap]) ∧ TmAt (fun b => p b ∨ w.heap.size ≤ b) w' G (.slice ao G.args.length cap) ∧ Below w.heap.size w w'
/-- what returns a leaf -/
def RetLeaf (G : Tm) (w : World) (e : Ending) (w' : World) : Prop := e = .returned (.agg #[.int .i64 G.kind, .int .i64 G.num, .string G.name, .slice none 0 0]) ∧ Below w.heap.size w w'
theorem res4l {w W W9 : World} {r : Nat} {x0 x1 x2 x3 y0 y1 y2 y3 : Value} (hr : w.heap.size ≤ r) (hx : BoxL W r [x0, x1, x2, x3]) (hb : Below w.heap.size w W)
    (h9 : W9 = ((((W.setCell ⟨r, 0, none⟩ y0).setCell ⟨r, 1, none⟩ y1).setCell ⟨r, 2, none⟩ y2).setCell ⟨r, 3, none⟩ y3)) : BoxL W9 r [y0, y1, y2, y3] ∧ Below w.heap.size w W9 ∧ ∀ b, b ≠ r → W9.heap[b]? = W.heap[b]? := by
  subst h9
  exact ⟨box4set hx _ _ _ _, below4 hb (by omega) _ _ _ _, fun b hb => heap_set4 _ _ _ _ _ _ hb⟩

set_option maxRecDepth 100000 in
set_option maxHeartbeats 1600000 in
theorem dominteger_c (z : Int) (w : World) : Calls Try.prog 91 #[.int .i64 z] w (RetLeaf (.int z) w) := by
  obtain ⟨V, hV⟩ : ∃ V, V = w.alloc (.cells #[.int .i64 0, .int .i64 0, .string ⟨#[]⟩, .slice none 0 0] 24) := ⟨_, rfl⟩
  have BV : Hid (Below w.heap.size w V) := by rw [hV]; exact (Below.refl _ _).alloc (Nat.le_refl _) _
  have ZV : Hid (BoxL V w.heap.size [.int .i64 0, .int .i64 0, .string ⟨#[]⟩, .slice none 0 0]) := by rw [hV]; exact BoxL.mk' w #[.int .i64 0, .int .i64 0, .string ⟨#[]⟩, .slice none 0 0] 24
  have hsV : Hid (w.heap.size < V.heap.size) := by show _ < _; rw [hV]; simp
  obtain ⟨⟨z0, z1, z2, z3⟩, f0, f1, f2, f3⟩ := box4c ZV.out
  go_enter Try.func91, Try.ntmps91
  go_upto_region 1 with (fail)
  rw [← hV]
  clear hV
  go_wp2
  refine post_gen7 fun W9 hW9 => ?_
  have hr := res4l (Nat.le_refl _) ZV.out BV.out hW9
  clear z0 z1 z2 z3 f0 f1 f2 f3 hW9
  obtain ⟨⟨z0, z1, z2, z3⟩, -⟩ := box4c hr.1
  refine bodyPost_ret (v := .agg #[.int .i64 2, .int .i64 z, .string ByteArray.empty, .slice none 0 0]) (by simp [results, Try.results91, go_sem, z0, z1, z2, z3]; try rfl) rfl ?_
  exact ⟨rfl, hr.2.1⟩
set_option maxRecDepth 100000 in
set_option maxHeartbeats 1600000 in
theorem domlimit_c (z : Int) (w : World) : Calls Try.prog 93 #[.int .i64 z] w (RetLeaf (limT z) w) := by
  obtain ⟨V, hV⟩ : ∃ V, V = w.alloc (.cells #[.int .i64 0, .int .i64 0, .string ⟨#[]⟩, .slice none 0 0] 24) := ⟨_, rfl⟩
  have BV : Hid (Below w.heap.size w V) := by rw [hV]; exact (Below.refl _ _).alloc (Nat.le_refl _) _
  have ZV : Hid (BoxL V w.heap.size [.int .i64 0, .int .i64 0, .string ⟨#[]⟩, .slice none 0 0]) := by rw [hV]; exact BoxL.mk' w #[.int .i64 0, .int .i64 0, .string ⟨#[]⟩, .slice none 0 0] 24
  have hsV : Hid (w.heap.size < V.heap.size) := by show _ < _; rw [hV]; simp
  obtain ⟨⟨z0, z1, z2, z3⟩, f0, f1, f2, f3⟩ := box4c ZV.out
  by_cases h1 : z = -200
  · subst h1
    have e : limT (-200) = .atom infS := rfl
    rw [e]
    go_enter Try.func93, Try.ntmps93
    go_upto_region 1 with (fail)
    rw [← hV]
    clear hV
    go_wp2
    refine post_gen7 fun W9 hW9 => ?_
    have hr := res4l (Nat.le_refl _) ZV.out BV.out hW9
    clear z0 z1 z2 z3 f0 f1 f2 f3 hW9
    obtain ⟨⟨z0, z1, z2, z3⟩, -⟩ := box4c hr.1
    refine bodyPost_ret (v := .agg #[.int .i64 3, .int .i64 0, .string ⟨#[105, 110, 102]⟩, .slice none 0 0]) (by simp [results, Try.results93, go_sem, z0, z1, z2, z3]; try rfl) rfl ?_
    exact ⟨rfl, hr.2.1⟩
  by_cases h2 : z = 200
  · subst h2
    have e : limT 200 = .atom supS := rfl
    rw [e]
    go_enter Try.func93, Try.ntmps93
    go_upto_region 1 with (fail)
    rw [← hV]
    clear hV
    go_wp2
    refine post_gen7 fun W9 hW9 => ?_
    have hr := res4l (Nat.le_refl _) ZV.out BV.out hW9
    clear z0 z1 z2 z3 f0 f1 f2 f3 hW9
    obtain ⟨⟨z0, z1, z2, z3⟩, -⟩ := box4c hr.1
    refine bodyPost_ret (v := .agg #[.int .i64 3, .int .i64 0, .string ⟨#[115, 117, 112]⟩, .slice none 0 0]) (by simp [results, Try.results93, go_sem, z0, z1, z2, z3]; try rfl) rfl ?_
    exact ⟨rfl, hr.2.1⟩
  · have e : limT z = .int z := by simp [limT, h1, h2]
    rw [e]
    have b1 : (z == -200) = false := by simpa using h1
    have b2 : (z == 200) = false := by simpa using h2
    have CI : Hid (∀ W, Calls Try.prog 91 #[.int .i64 z] W fun e w' => e = .returned (.agg #[.int .i64 2, .int .i64 z, .string ByteArray.empty, .slice none 0 0]) ∧ Below W.heap.size W w') := fun W => dominteger_c z W
    clear h1 h2 e
    go_enter Try.func93, Try.ntmps93
    go_upto_region 1 with (fail)
    rw [← hV]
    clear hV
    go_wp2_with (first | (go_at_call 91; ((with_reducible refine (CI.out _).mono ?_); rintro e W2 ⟨rfl, bb⟩; have ZX := Lib.hid (ZV.out.block (bb.block _ hsV.out)); have BX := Lib.hid (BV.out.trans (bb.mono BV.out.size)); clear z0 z1 z2 z3 f0 f1 f2 f3 bb; obtain ⟨⟨z0, z1, z2, z3⟩, f0, f1, f2, f3⟩ := box4c ZX.out)))
    refine post_gen7 fun W9 hW9 => ?_
    have hr := res4l (Nat.le_refl _) ZX.out BX.out hW9
    clear z0 z1 z2 z3 f0 f1 f2 f3 hW9
    obtain ⟨⟨z0, z1, z2, z3⟩, -⟩ := box4c hr.1
    refine bodyPost_ret (v := .agg #[.int .i64 2, .int .i64 z, .string ByteArray.empty, .slice none 0 0]) (by simp [results, Try.results93, go_sem, z0, z1, z2, z3]; try rfl) rfl ?_
    exact ⟨rfl, hr.2.1⟩
set_option maxRecDepth 100000 in
set_option maxHeartbeats 1600000 in
theorem dompair_c {p : Nat → Prop} (s : ByteArray) (a b : Tm) (va vb : Value) (w : World) (ha : TmAt p w a va) (hb : TmAt p w b vb) :
    Calls Try.prog 92 #[.string s, tmV a va, tmV b vb] w (RetTmP p (pairT s a b) w) := by
  obtain ⟨ao, ac, rfl, _⟩ := ha.shape
  obtain ⟨bo, bc, rfl, _⟩ := hb.shape
  have al : ∀ (W : World) (o : Obj) (B : Nat), B ≤ W.heap.size → Below B W (W.alloc o) := fun W o B h => (Below.refl B W).alloc h o
  obtain ⟨V, hV⟩ : ∃ V, V = (((w.alloc (.cells #[.int .i64 a.kind, .int .i64 a.num, .string a.name, .slice ao a.args.length ac] 24)).alloc (.cells #[.int .i64 b.kind, .int .i64 b.num, .string b.name, .slice bo b.args.length bc] 24)).alloc (.cells #[.int .i64 0, .int .i64 0, .string ⟨#[]⟩, .slice none 0 0] 24)) := ⟨_, rfl⟩
  have hsV : V.heap.size = w.heap.size + 3 := by rw [hV]; simp
  have BV : Hid (Below w.heap.size w V) := by rw [hV]; exact ((al _ _ _ (Nat.le_refl _)).trans (al _ _ _ (by simp))).trans (al _ _ _ (by simp; omega))
  have XA : Hid (BoxL V w.heap.size [.int .i64 a.kind, .int .i64 a.num, .string a.name, .slice ao a.args.length ac]) := by
    rw [hV]; exact ((BoxL.mk' w #[.int .i64 a.kind, .int .i64 a.num, .string a.name, .slice ao a.args.length ac] 24).below (al _ _ (w.heap.size + 1) (by simp)) (by omega)).below (al _ _ (w.heap.size + 1) (by simp)) (by omega)
  have XB : Hid (BoxL V (w.heap.size + 1) [.int .i64 b.kind, .int .i64 b.num, .string b.name, .slice bo b.args.length bc]) := by
    have h := BoxL.mk' (w.alloc (.cells #[.int .i64 a.kind, .int .i64 a.num, .string a.name, .slice ao a.args.length ac] 24)) #[.int .i64 b.kind, .int .i64 b.num, .string b.name, .slice bo b.args.length bc] 24
    simp only [World.size_alloc] at h
    rw [hV]; exact h.below (al _ _ (w.heap.size + 1 + 1) (by simp)) (by omega)
  have ZV : Hid (BoxL V (w.heap.size + 1 + 1) [.int .i64 0, .int .i64 0, .string ⟨#[]⟩, .slice none 0 0]) := by
    have h := BoxL.mk' ((w.alloc (.cells #[.int .i64 a.kind, .int .i64 a.num, .string a.name, .slice ao a.args.length ac] 24)).alloc (.cells #[.int .i64 b.kind, .int .i64 b.num, .string b.name, .slice bo b.args.length bc] 24)) #[.int .i64 0, .int .i64 0, .string ⟨#[]⟩, .slice none 0 0] 24
    simp only [World.size_alloc] at h
    rw [hV]; exact h
  have HSV := Lib.hid hsV
  have hv3 : w.heap.size + 1 + 1 < V.heap.size := by omega
  have HTA := Lib.hid ha
  have HTB := Lib.hid hb
  obtain ⟨⟨x0, x1, x2, x3⟩, _⟩ := box4c XA.out
  obtain ⟨⟨y0, y1, y2, y3⟩, _⟩ := box4c XB.out
  obtain ⟨⟨z0, z1, z2, z3⟩, f0, f1, f2, f3⟩ := box4c ZV.out
  unfold tmV
  clear al ha hb hsV
  go_enter Try.func92, Try.ntmps92
  go_upto_region 1 with (fail)
  rw [← hV]
  clear hV
  go_wp2
  refine post_gen7 fun W9 hW9 => ?_
  obtain ⟨W8, h8⟩ : ∃ W8, W8 = ((((V.setCell ⟨w.heap.size + 1 + 1, 0, none⟩ (.int .i64 4)).setCell ⟨w.heap.size + 1 + 1, 1, none⟩ (.int .i64 0)).setCell ⟨w.heap.size + 1 + 1, 2, none⟩ (.string s)).setCell ⟨w.heap.size + 1 + 1, 3, none⟩ (.slice (some ⟨V.heap.size, 0, none⟩) 2 2)) := ⟨_, rfl⟩
  have hs8 : W8.heap.size = V.heap.size := by rw [h8]; simp
  rw [← h8] at hW9
  have hr := res4l (w := w) (by omega) ZV.out BV.out h8
  have b9 : Below W8.heap.size W8 W9 := by rw [hW9]; exact (Below.refl _ _).alloc (Nat.le_refl _) _
  clear z0 z1 z2 z3 f0 f1 f2 f3 h8 x0 x1 x2 x3 y0 y1 y2 y3
  have HC : BoxL W9 (w.heap.size + 3) [.int .i64 a.kind, .int .i64 a.num, .string a.name, .slice ao a.args.length ac, .int .i64 b.kind, .int .i64 b.num, .string b.name, .slice bo b.args.length bc] := by
    have h := BoxL.mk' W8 #[.int .i64 a.kind, .int .i64 a.num, .string a.name, .slice ao a.args.length ac, .int .i64 b.kind, .int .i64 b.num, .string b.name, .slice bo b.args.length bc] 24
    rw [hs8, HSV.out] at h
    rw [hW9]; exact h
  have hb9 : Below w.heap.size w W9 := hr.2.1.trans (b9.mono hr.2.1.size)
  have hx9 := hr.1.block (b9.block _ (by omega))
  clear hW9
  obtain ⟨⟨z0, z1, z2, z3⟩, -⟩ := box4c hx9
  have hsv := HSV.out
  rw [hsv] at z3
  refine bodyPost_ret (v := .agg #[.int .i64 4, .int .i64 0, .string s, .slice (some ⟨w.heap.size + 3, 0, none⟩) 2 2]) (by simp [results, Try.results92, go_sem, z0, z1, z2, z3]; try rfl) rfl ?_
  refine ⟨_, 2, rfl, ?_, hb9⟩
  have mv : ∀ {t : Tm} {v : Value}, TmAt p w t v → TmAt (fun b => p b ∨ w.heap.size ≤ b) W9 t v := fun h => h.mono fun b hl hp => ⟨.inl hp, hb9.block b hl⟩
  exact TmAt.node (l := [a, b]) (av0 := fun i => if i = 0 then .slice ao a.args.length ac else .slice bo b.args.length bc) (by simp) (by simp) (by simp [maxLen]) (.inr (by omega))
    (fun i hi => by
      rcases (show i = 0 ∨ i = 1 by simp at hi; omega) with rfl | rfl
      · exact ⟨(HC.get 0 rfl).1, (HC.get 1 rfl).1, (HC.get 2 rfl).1, (HC.get 3 rfl).1⟩
      · exact ⟨(HC.get 4 rfl).1, (HC.get 5 rfl).1, (HC.get 6 rfl).1, (HC.get 7 rfl).1⟩)
    (fun i hi => by
      rcases (show i = 0 ∨ i = 1 by simp at hi; omega) with rfl | rfl
      · exact mv HTA.out
      · exact mv HTB.out)

set_option maxRecDepth 100000 in
set_option maxHeartbeats 1600000 in
theorem refinteger_c (z : Int) (w : World) : Calls Try.prog 96 #[.int .i64 z] w (RetLeaf (.int z) w) := by
  obtain ⟨V, hV⟩ : ∃ V, V = w.alloc (.cells #[.int .i64 0, .int .i64 0, .string ⟨#[]⟩, .slice none 0 0] 24) := ⟨_, rfl⟩
  have BV : Hid (Below w.heap.size w V) := by rw [hV]; exact (Below.refl _ _).alloc (Nat.le_refl _) _
  have ZV : Hid (BoxL V w.heap.size [.int .i64 0, .int .i64 0, .string ⟨#[]⟩, .slice none 0 0]) := by rw [hV]; exact BoxL.mk' w #[.int .i64 0, .int .i64 0, .string ⟨#[]⟩, .slice none 0 0] 24
  have hsV : Hid (w.heap.size < V.heap.size) := by show _ < _; rw [hV]; simp
  obtain ⟨⟨z0, z1, z2, z3⟩, f0, f1, f2, f3⟩ := box4c ZV.out
  go_enter Try.func96, Try.ntmps96
  go_upto_region 1 with (fail)
  rw [← hV]
  clear hV
  go_wp2
  refine post_gen7 fun W9 hW9 => ?_
  have hr := res4l (Nat.le_refl _) ZV.out BV.out hW9
  clear z0 z1 z2 z3 f0 f1 f2 f3 hW9
  obtain ⟨⟨z0, z1, z2, z3⟩, -⟩ := box4c hr.1
  refine bodyPost_ret (v := .agg #[.int .i64 2, .int .i64 z, .string ByteArray.empty, .slice none 0 0]) (by simp [results, Try.results96, go_sem, z0, z1, z2, z3]; try rfl) rfl ?_
  exact ⟨rfl, hr.2.1⟩
set_option maxRecDepth 100000 in
set_option maxHeartbeats 1600000 in
theorem reflimit_c (z : Int) (w : World) : Calls Try.prog 97 #[.int .i64 z] w (RetLeaf (limT z) w) := by
  obtain ⟨V, hV⟩ : ∃ V, V = w.alloc (.cells #[.int .i64 0, .int .i64 0, .string ⟨#[]⟩, .slice none 0 0] 24) := ⟨_, rfl⟩
  have BV : Hid (Below w.heap.size w V) := by rw [hV]; exact (Below.refl _ _).alloc (Nat.le_refl _) _
  have ZV : Hid (BoxL V w.heap.size [.int .i64 0, .int .i64 0, .string ⟨#[]⟩, .slice none 0 0]) := by rw [hV]; exact BoxL.mk' w #[.int .i64 0, .int .i64 0, .string ⟨#[]⟩, .slice none 0 0] 24
  have hsV : Hid (w.heap.size < V.heap.size) := by show _ < _; rw [hV]; simp
  obtain ⟨⟨z0, z1, z2, z3⟩, f0, f1, f2, f3⟩ := box4c ZV.out
  by_cases h1 : z = -200
  · subst h1
    have e : limT (-200) = .atom infS := rfl
    rw [e]
    go_enter Try.func97, Try.ntmps97
    go_upto_region 1 with (fail)
    rw [← hV]
    clear hV
    go_wp2
    refine post_gen7 fun W9 hW9 => ?_
    have hr := res4l (Nat.le_refl _) ZV.out BV.out hW9
    clear z0 z1 z2 z3 f0 f1 f2 f3 hW9
    obtain ⟨⟨z0, z1, z2, z3⟩, -⟩ := box4c hr.1
    refine bodyPost_ret (v := .agg #[.int .i64 3, .int .i64 0, .string ⟨#[105, 110, 102]⟩, .slice none 0 0]) (by simp [results, Try.results97, go_sem, z0, z1, z2, z3]; try rfl) rfl ?_
    exact ⟨rfl, hr.2.1⟩
  by_cases h2 : z = 200
  · subst h2
    have e : limT 200 = .atom supS := rfl
    rw [e]
    go_enter Try.func97, Try.ntmps97
    go_upto_region 1 with (fail)
    rw [← hV]
    clear hV
    go_wp2
    refine post_gen7 fun W9 hW9 => ?_
    have hr := res4l (Nat.le_refl _) ZV.out BV.out hW9
    clear z0 z1 z2 z3 f0 f1 f2 f3 hW9
    obtain ⟨⟨z0, z1, z2, z3⟩, -⟩ := box4c hr.1
    refine bodyPost_ret (v := .agg #[.int .i64 3, .int .i64 0, .string ⟨#[115, 117, 112]⟩, .slice none 0 0]) (by simp [results, Try.results97, go_sem, z0, z1, z2, z3]; try rfl) rfl ?_
    exact ⟨rfl, hr.2.1⟩
  · have e : limT z = .int z := by simp [limT, h1, h2]
    rw [e]
    have b1 : (z == -200) = false := by simpa using h1
    have b2 : (z == 200) = false := by simpa using h2
    have CI : Hid (∀ W, Calls Try.prog 96 #[.int .i64 z] W fun e w' => e = .returned (.agg #[.int .i64 2, .int .i64 z, .string ByteArray.empty, .slice none 0 0]) ∧ Below W.heap.size W w') := fun W => refinteger_c z W
    clear h1 h2 e
    go_enter Try.func97, Try.ntmps97
    go_upto_region 1 with (fail)
    rw [← hV]
    clear hV
    go_wp2_with (first | (go_at_call 96; ((with_reducible refine (CI.out _).mono ?_); rintro e W2 ⟨rfl, bb⟩; have ZX := Lib.hid (ZV.out.block (bb.block _ hsV.out)); have BX := Lib.hid (BV.out.trans (bb.mono BV.out.size)); clear z0 z1 z2 z3 f0 f1 f2 f3 bb; obtain ⟨⟨z0, z1, z2, z3⟩, f0, f1, f2, f3⟩ := box4c ZX.out)))
    refine post_gen7 fun W9 hW9 => ?_
    have hr := res4l (Nat.le_refl _) ZX.out BX.out hW9
    clear z0 z1 z2 z3 f0 f1 f2 f3 hW9
    obtain ⟨⟨z0, z1, z2, z3⟩, -⟩ := box4c hr.1
    refine bodyPost_ret (v := .agg #[.int .i64 2, .int .i64 z, .string ByteArray.empty, .slice none 0 0]) (by simp [results, Try.results97, go_sem, z0, z1, z2, z3]; try rfl) rfl ?_
    exact ⟨rfl, hr.2.1⟩
set_option maxRecDepth 100000 in
set_option maxHeartbeats 1600000 in
theorem refpair_c {p : Nat → Prop} (s : ByteArray) (a b : Tm) (va vb : Value) (w : World) (ha : TmAt p w a va) (hb : TmAt p w b vb) :
    Calls Try.prog 95 #[.string s, tmV a va, tmV b vb] w (RetTmP p (pairT s a b) w) := by
  obtain ⟨ao, ac, rfl, _⟩ := ha.shape
  obtain ⟨bo, bc, rfl, _⟩ := hb.shape
  have al : ∀ (W : World) (o : Obj) (B : Nat), B ≤ W.heap.size → Below B W (W.alloc o) := fun W o B h => (Below.refl B W).alloc h o
  obtain ⟨V, hV⟩ : ∃ V, V = (((w.alloc (.cells #[.int .i64 a.kind, .int .i64 a.num, .string a.name, .slice ao a.args.length ac] 24)).alloc (.cells #[.int .i64 b.kind, .int .i64 b.num, .string b.name, .slice bo b.args.length bc] 24)).alloc (.cells #[.int .i64 0, .int .i64 0, .string ⟨#[]⟩, .slice none 0 0] 24)) := ⟨_, rfl⟩
  have hsV : V.heap.size = w.heap.size + 3 := by rw [hV]; simp
  have BV : Hid (Below w.heap.size w V) := by rw [hV]; exact ((al _ _ _ (Nat.le_refl _)).trans (al _ _ _ (by simp))).trans (al _ _ _ (by simp; omega))
  have XA : Hid (BoxL V w.heap.size [.int .i64 a.kind, .int .i64 a.num, .string a.name, .slice ao a.args.length ac]) := by
    rw [hV]; exact ((BoxL.mk' w #[.int .i64 a.kind, .int .i64 a.num, .string a.name, .slice ao a.args.length ac] 24).below (al _ _ (w.heap.size + 1) (by simp)) (by omega)).below (al _ _ (w.heap.size + 1) (by simp)) (by omega)
  have XB : Hid (BoxL V (w.heap.size + 1) [.int .i64 b.kind, .int .i64 b.num, .string b.name, .slice bo b.args.length bc]) := by
    have h := BoxL.mk' (w.alloc (.cells #[.int .i64 a.kind, .int .i64 a.num, .string a.name, .slice ao a.args.length ac] 24)) #[.int .i64 b.kind, .int .i64 b.num, .string b.name, .slice bo b.args.length bc] 24
    simp only [World.size_alloc] at h
    rw [hV]; exact h.below (al _ _ (w.heap.size + 1 + 1) (by simp)) (by omega)
  have ZV : Hid (BoxL V (w.heap.size + 1 + 1) [.int .i64 0, .int .i64 0, .string ⟨#[]⟩, .slice none 0 0]) := by
    have h := BoxL.mk' ((w.alloc (.cells #[.int .i64 a.kind, .int .i64 a.num, .string a.name, .slice ao a.args.length ac] 24)).alloc (.cells #[.int .i64 b.kind, .int .i64 b.num, .string b.name, .slice bo b.args.length bc] 24)) #[.int .i64 0, .int .i64 0, .string ⟨#[]⟩, .slice none 0 0] 24
    simp only [World.size_alloc] at h
    rw [hV]; exact h
  have HSV := Lib.hid hsV
  have hv3 : w.heap.size + 1 + 1 < V.heap.size := by omega
  have HTA := Lib.hid ha
  have HTB := Lib.hid hb
  obtain ⟨⟨x0, x1, x2, x3⟩, _⟩ := box4c XA.out
  obtain ⟨⟨y0, y1, y2, y3⟩, _⟩ := box4c XB.out
  obtain ⟨⟨z0, z1, z2, z3⟩, f0, f1, f2, f3⟩ := box4c ZV.out
  unfold tmV
  clear al ha hb hsV
  go_enter Try.func95, Try.ntmps95
  go_upto_region 1 with (fail)
  rw [← hV]
  clear hV
  go_wp2
  refine post_gen7 fun W9 hW9 => ?_
  obtain ⟨W8, h8⟩ : ∃ W8, W8 = ((((V.setCell ⟨w.heap.size + 1 + 1, 0, none⟩ (.int .i64 4)).setCell ⟨w.heap.size + 1 + 1, 1, none⟩ (.int .i64 0)).setCell ⟨w.heap.size + 1 + 1, 2, none⟩ (.string s)).setCell ⟨w.heap.size + 1 + 1, 3, none⟩ (.slice (some ⟨V.heap.size, 0, none⟩) 2 2)) := ⟨_, rfl⟩
  have hs8 : W8.heap.size = V.heap.size := by rw [h8]; simp
  rw [← h8] at hW9
  have hr := res4l (w := w) (by omega) ZV.out BV.out h8
  have b9 : Below W8.heap.size W8 W9 := by rw [hW9]; exact (Below.refl _ _).alloc (Nat.le_refl _) _
  clear z0 z1 z2 z3 f0 f1 f2 f3 h8 x0 x1 x2 x3 y0 y1 y2 y3
  have HC : BoxL W9 (w.heap.size + 3) [.int .i64 a.kind, .int .i64 a.num, .string a.name, .slice ao a.args.length ac, .int .i64 b.kind, .int .i64 b.num, .string b.name, .slice bo b.args.length bc] := by
    have h := BoxL.mk' W8 #[.int .i64 a.kind, .int .i64 a.num, .string a.name, .slice ao a.args.length ac, .int .i64 b.kind, .int .i64 b.num, .string b.name, .slice bo b.args.length bc] 24
    rw [hs8, HSV.out] at h
    rw [hW9]; exact h
  have hb9 : Below w.heap.size w W9 := hr.2.1.trans (b9.mono hr.2.1.size)
  have hx9 := hr.1.block (b9.block _ (by omega))
  clear hW9
  obtain ⟨⟨z0, z1, z2, z3⟩, -⟩ := box4c hx9
  have hsv := HSV.out
  rw [hsv] at z3
  refine bodyPost_ret (v := .agg #[.int .i64 4, .int .i64 0, .string s, .slice (some ⟨w.heap.size + 3, 0, none⟩) 2 2]) (by simp [results, Try.results95, go_sem, z0, z1, z2, z3]; try rfl) rfl ?_
  refine ⟨_, 2, rfl, ?_, hb9⟩
  have mv : ∀ {t : Tm} {v : Value}, TmAt p w t v → TmAt (fun b => p b ∨ w.heap.size ≤ b) W9 t v := fun h => h.mono fun b hl hp => ⟨.inl hp, hb9.block b hl⟩
  exact TmAt.node (l := [a, b]) (av0 := fun i => if i = 0 then .slice ao a.args.length ac else .slice bo b.args.length bc) (by simp) (by simp) (by simp [maxLen]) (.inr (by omega))
    (fun i hi => by
      rcases (show i = 0 ∨ i = 1 by simp at hi; omega) with rfl | rfl
      · exact ⟨(HC.get 0 rfl).1, (HC.get 1 rfl).1, (HC.get 2 rfl).1, (HC.get 3 rfl).1⟩
      · exact ⟨(HC.get 4 rfl).1, (HC.get 5 rfl).1, (HC.get 6 rfl).1, (HC.get 7 rfl).1⟩)
    (fun i hi => by
      rcases (show i = 0 ∨ i = 1 by simp at hi; omega) with rfl | rfl
      · exact mv HTA.out
      · exact mv HTB.out)
end Go.Proofs.Ytmffobadnmkpbaa
namespace Go.Proofs.Ytmffobadnmkpbaa
open Go.RowKit

/-- what gather hands back -/
def RetG (t : Tm) (w : World) (e : Ending) (w' : World) : Prop := ∃ ao L cap ok, e = .returned (.tuple #[.slice ao (List.length L) cap, .bool ok]) ∧ RgAt w' (.slice ao (List.length L) cap) L ∧ (ok = true → gath t = some L) ∧ (ok = false → gath t = none) ∧ List.length L ≤ t.size ∧ Below w.heap.size w w'
def GathC (t : Tm) : Prop := ∀ (va : Value) (w : World), TmAt (fun _ => True) w t va → t.size ≤ 2001 → Calls Try.prog 94 #[tmV t va] w (RetG t w)
theorem retG_no {t : Tm} (h : gath t = none) {w w' : World} (hb : Below w.heap.size w w') : RetG t w (.returned (.tuple #[.slice none 0 0, .bool false])) w' :=
  ⟨none, [], 0, false, rfl, RgAt.nil, (fun h => by cases h), fun _ => h, Nat.zero_le _, hb⟩
theorem box_t (w : World) (a0 a1 a2 a3 : Value) (W' : World) (h : Below (w.heap.size + 1) (w.alloc (.cells #[a0, a1, a2, a3] 24)) W') : W'.cell? ⟨w.heap.size, 0, none⟩ = some a0 ∧ W'.cell? ⟨w.heap.size, 1, none⟩ = some a1 ∧ W'.cell? ⟨w.heap.size, 2, none⟩ = some a2 ∧ W'.cell? ⟨w.heap.size, 3, none⟩ = some a3 := by
  have e := ((BoxL.mk' w #[a0, a1, a2, a3] 24).below h (by omega))
  exact ⟨(e.get 0 rfl).1, (e.get 1 rfl).1, (e.get 2 rfl).1, (e.get 3 rfl).1⟩
theorem rg_one (w : World) (a b : Int) (T : TypeId) : RgAt (w.alloc (.cells #[.int .i64 a, .int .i64 b] T)) (.slice (some ⟨w.heap.size, 0, none⟩) 1 1) [(a, b)] := by
  refine ⟨rfl, some ⟨w.heap.size, 0, none⟩, 1, rfl, Nat.le_refl _, by simp [maxLen], (fun h => by cases h), fun _ => ⟨w.heap.size, 0, rfl, by simp, fun j hj => ?_⟩⟩
  have h := BoxL.mk' w #[.int .i64 a, .int .i64 b] T
  rw [Nat.zero_add]
  exact (h j hj).1
set_option maxRecDepth 100000 in
set_option maxHeartbeats 3200000 in
theorem gather_leaf (t : Tm) (va : Value) (w : World) (ht : TmAt (fun _ => True) w t va) (hn : ∀ s x y, t ≠ .cmp s [x, y]) : Calls Try.prog 94 #[tmV t va] w (RetG t w) := by
  obtain ⟨ao, cc, rfl, _⟩ := ht.shape
  have B1 : Hid (Below w.heap.size w (w.alloc (.cells #[.int .i64 t.kind, .int .i64 t.num, .string t.name, .slice ao t.args.length cc] 24))) := (Below.refl _ _).alloc (Nat.le_refl _) _
  unfold tmV
  by_cases h2 : t.kind = 2
  · obtain ⟨z, rfl⟩ : ∃ z, t = .int z := by cases t <;> simp [Tm.kind] at h2; exact ⟨_, rfl⟩
    simp only [Tm.kind, Tm.num, Tm.name, Tm.args, List.length_nil] at B1 ⊢
    clear ht hn h2
    go_enter Try.func94, Try.ntmps94
    go_wp2
    go_ret2
    have h := rg_one (w.alloc (.cells #[.int .i64 2, .int .i64 z, .string ByteArray.empty, .slice ao 0 cc] 24)) z z 107
    simp only [World.size_alloc] at h
    exact ⟨_, [(z, z)], 1, true, rfl, h, (fun _ => by simp [gath]), (fun h => by cases h), by simp [Tm.size], B1.out.alloc (by simp) _⟩
  have b2 : (t.kind == 2) = false := by simpa using h2
  have hg : gath t = none := by
    cases t with
    | int z => simp [Tm.kind] at h2
    | cmp s l =>
      match l, hn with
      | [], _ => rfl
      | [_], _ => rfl
      | [x, y], hn => exact absurd rfl (hn s x y)
      | _ :: _ :: _ :: _, _ => rfl
    | _ => rfl
  have HG := Lib.hid hg
  by_cases h4 : t.kind = 4
  · have hl : t.args.length ≠ 2 := by
      obtain ⟨s, l, rfl⟩ : ∃ s l, t = .cmp s l := by cases t <;> simp [Tm.kind] at h4; exact ⟨_, _, rfl⟩
      intro h
      match l, h with
      | [x, y], _ => exact hn s x y rfl
    have bl : ((t.args.length : Int) != 2) = true := by simp; omega
    rw [h4] at B1 ⊢
    generalize t.args.length = n at *
    clear ht hn h2 hg h4 b2
    go_enter Try.func94, Try.ntmps94
    go_wp2
    go_ret2
    exact retG_no HG.out B1.out
  · have b4 : (t.kind != 4) = true := by simpa using h4
    generalize t.args.length = n at *
    clear ht hn h2 hg h4
    go_enter Try.func94, Try.ntmps94
    go_wp2
    go_ret2
    exact retG_no HG.out B1.out
end Go.Proofs.Ytmffobadnmkpbaa
namespace Go.Proofs.Ytmffobadnmkpbaa
open Go.RowKit

/-- the two arguments of a pair, where they lie -/
theorem pair_parts {w : World} {s : ByteArray} {x y : Tm} {ao : Option Addr} {n cc : Nat} (h : TmAt (fun _ => True) w (.cmp s [x, y]) (.slice ao n cc)) : ∃ b off p0 q0 p1 q1, ao = some ⟨b, off, none⟩ ∧ CellsT w b off x (.slice p0 x.args.length q0) ∧ CellsT w b (off + 4) y (.slice p1 y.args.length q1) ∧
    TmAt (fun _ => True) w x (.slice p0 x.args.length q0) ∧ TmAt (fun _ => True) w y (.slice p1 y.args.length q1) := by
  have ht := TsAt.of_tm h
  obtain ⟨b, off, a0, h0, -, c0, t0⟩ := ht.get 0 (by simp [Tm.args])
  obtain ⟨b', off', a1, h1, -, c1, t1⟩ := ht.get 1 (by simp [Tm.args])
  subst h0
  simp only [Option.some.injEq, Addr.mk.injEq, and_true] at h1
  obtain ⟨rfl, rfl⟩ := h1
  obtain ⟨p0, q0, rfl, _⟩ := t0.shape
  obtain ⟨p1, q1, rfl, _⟩ := t1.shape
  exact ⟨b, off, p0, q0, p1, q1, rfl, by simpa [Tm.args] using c0, by simpa [Tm.args] using c1, t0, t1⟩
theorem two_slices (W : World) (u v : Value) (T : TypeId) : (W.alloc (.cells #[u, v] T)).cell? ⟨W.heap.size, 0, none⟩ = some u ∧ (W.alloc (.cells #[u, v] T)).cell? ⟨W.heap.size, 1, none⟩ = some v := by
  have h := BoxL.mk' W #[u, v] T
  exact ⟨(h.get 0 rfl).1, (h.get 1 rfl).1⟩
theorem gath_or {s : ByteArray} {x y : Tm} (h : s.toList = orS.toList) : gath (.cmp s [x, y]) = (match gath x, gath y with | some x, some y => some (x ++ y) | _, _ => none) := by
  simp only [gath, h, if_true] <;> rfl
theorem retG_or {s : ByteArray} {x y : Tm} (h : s.toList = orS.toList) {w w' : World} {L1 L2 : List Rg} {o1 o2 : Bool} (h1 : o1 = true → gath x = some L1) (h1' : o1 = false → gath x = none) (h2 : o2 = true → gath y = some L2) (h2' : o2 = false → gath y = none) {ao : Option Addr} {cap : Nat} {ok : Bool} (hk : ok = (o1 && o2))
    (hr : RgAt w' (.slice ao (L1 ++ L2).length cap) (L1 ++ L2)) (hl1 : L1.length ≤ x.size) (hl2 : L2.length ≤ y.size) (hb : Below w.heap.size w w') : RetG (.cmp s [x, y]) w (.returned (.tuple #[.slice ao (L1 ++ L2).length cap, .bool ok])) w' := by
  refine ⟨ao, L1 ++ L2, cap, ok, rfl, hr, fun h => ?_, fun h => ?_, ?_, hb⟩
  · rw [gath_or (by assumption)]
    cases o1 <;> cases o2 <;> simp_all
  · rw [gath_or (by assumption)]
    cases o1 with
    | false => rw [h1' rfl]
    | true => cases o2 with
      | false => rw [h2' rfl]; cases gath x <;> rfl
      | true => simp_all
  · simp only [List.length_append, Tm.size, Tm.sizes]; omega
set_option maxRecDepth 100000 in
set_option maxHeartbeats 3200000 in
theorem gather_or (s : ByteArray) (x y : Tm) (va : Value) (w : World) (ht : TmAt (fun _ => True) w (.cmp s [x, y]) va) (hs : s.toList = orS.toList) (hz : (Tm.cmp s [x, y]).size ≤ 2001) (hx : GathC x) (hy : GathC y) : Calls Try.prog 94 #[tmV (.cmp s [x, y]) va] w (RetG (.cmp s [x, y]) w) := by
  obtain ⟨ao, cc, rfl, _⟩ := ht.shape
  obtain ⟨b, off, p0, q0, p1, q1, rfl, cx, cy, tx, ty⟩ := pair_parts ht
  have hzx : x.size ≤ 2001 ∧ y.size ≤ 2001 ∧ x.size + y.size ≤ 2001 := by simp only [Tm.size, Tm.sizes] at hz; omega
  have B1 : Hid (∀ W, Below (w.heap.size + 1) (w.alloc (.cells #[.int .i64 4, .int .i64 0, .string s, .slice (some ⟨b, off, none⟩) 2 cc] 24)) W → Below w.heap.size w W) := fun W h => ((Below.refl _ _).alloc (Nat.le_refl _) _).trans (h.mono (by omega))
  have KB := Lib.hid (box_t w (.int .i64 4) (.int .i64 0) (.string s) (.slice (some ⟨b, off, none⟩) 2 cc))
  have KX : Hid (∀ W, Below w.heap.size w W → CellsT W b off x (.slice p0 x.args.length q0) ∧ CellsT W b (off + 4) y (.slice p1 y.args.length q1)) := fun W h => ⟨cx.block (h.block _ cx.lt), cy.block (h.block _ cy.lt)⟩
  have CX : Hid (∀ W, Below w.heap.size w W → Calls Try.prog 94 #[.agg #[.int .i64 x.kind, .int .i64 x.num, .string x.name, .slice p0 x.args.length q0]] W (RetG x W)) := fun W h => hx _ W (tx.later h) hzx.1
  have CY : Hid (∀ W, Below w.heap.size w W → Calls Try.prog 94 #[.agg #[.int .i64 y.kind, .int .i64 y.num, .string y.name, .slice p1 y.args.length q1]] W (RetG y W)) := fun W h => hy _ W (ty.later h) hzx.2.1
  have HS := Lib.hid hs
  have HZ := Lib.hid hzx.2.2
  have hsb : (s.toList == [92, 47]) = true := by rw [hs, orS_list]; rfl
  have hbw := cx.lt
  have hbw1 : b < w.heap.size + 1 := by omega
  obtain ⟨x0, x1, x2, x3⟩ := cx
  show Calls _ _ #[.agg #[.int .i64 4, .int .i64 0, .string s, .slice (some ⟨b, off, none⟩) 2 cc]] _ _
  clear ht tx ty cy hx hy hs hz hzx
  go_enter Try.func94, Try.ntmps94
  go_upto_region 7 with (first | (go_at_call 94; ((with_reducible refine (CX.out _ ?_).mono ?_); (· exact B1.out _ (Below.refl _ _)); rintro e W1 ⟨a1, L1, c1, o1, rfl, r1, g1, g1', l1, bb⟩; have R1 := Lib.hid r1; have G1 := Lib.hid g1; have G1' := Lib.hid g1'; have P1 : Hid (Below (w.heap.size + 1) (w.alloc (.cells #[.int .i64 4, .int .i64 0, .string s, .slice (some ⟨b, off, none⟩) 2 cc] 24)) W1) := (by have h := bb; simp only [World.size_alloc] at h; exact h); clear bb r1 g1 g1')))
  clear x0 x1 x2 x3 CX
  obtain ⟨k0, k1, k2, k3⟩ := KB.out W1 P1.out
  obtain ⟨x0, x1, x2, x3⟩ := (KX.out W1 (B1.out W1 P1.out)).2
  have hw1 := P1.out.size
  simp only [World.size_alloc] at hw1
  have ho4 : off + 4 + 1 = off + 5 := rfl
  go_upto_region 8 with (first | (go_at_call 94; ((with_reducible refine (CY.out _ (B1.out _ P1.out)).mono ?_); rintro e W2 ⟨a2, L2, c2, o2, rfl, r2, g2, g2', l2, bb⟩; have R2 := Lib.hid r2; have G2 := Lib.hid g2; have G2' := Lib.hid g2'; have P2 := Lib.hid bb; clear bb r2 g2 g2')))
  clear x0 x1 x2 x3 k0 k1 k2 k3 CY KX KB
  have R12 := Lib.hid (R1.out.below P2.out)
  have CC : Hid (Calls Try.prog 120 #[.slice (some ⟨W2.heap.size, 0, none⟩) 2 2] (W2.alloc (.cells #[.slice a1 L1.length c1, .slice a2 L2.length c2] 61)) (RetR (L1 ++ L2) (W2.alloc (.cells #[.slice a1 L1.length c1, .slice a2 L2.length c2] 61)))) :=
    concat_c _ _ L1 L2 W2.heap.size _ (R12.out.below ((Below.refl _ _).alloc (Nat.le_refl _) _)) (R2.out.below ((Below.refl _ _).alloc (Nat.le_refl _) _)) (by have := HZ.out; omega) (by have := HZ.out; omega) (two_slices W2 _ _ _).1 (two_slices W2 _ _ _).2
  have P3 : Hid (Below w.heap.size w (W2.alloc (.cells #[.slice a1 L1.length c1, .slice a2 L2.length c2] 61))) := ((B1.out _ P1.out).trans (P2.out.mono (by omega))).trans (((Below.refl _ _).alloc (Nat.le_refl _) _).mono (by have := P2.out.size; omega))
  obtain ⟨L, hL⟩ : ∃ L, L = L1 ++ L2 := ⟨_, rfl⟩
  rw [← hL] at CC
  have FIN : Hid (∀ (a4 : Option Addr) (c4 : Nat) (W4 : World), RgAt W4 (.slice a4 L.length c4) L → Below w.heap.size w W4 → RetG (.cmp s [x, y]) w (.returned (.tuple #[.slice a4 L.length c4, .bool (o1 && o2)])) W4) := fun a4 c4 W4 h1 h2 => by
    subst hL
    exact retG_or HS.out G1.out G1'.out G2.out G2'.out rfl h1 l1 l2 h2
  clear G1 G1' G2 G2' hL
  cases o1 with
  | false =>
    go_wp2_with (first | (go_at_call 120; ((with_reducible refine CC.out.mono ?_); rintro e W4 ⟨a4, c4, rfl, r4, b4⟩; have R4 := Lib.hid r4; have B4 := Lib.hid b4; clear r4 b4)))
    go_ret2
    exact FIN.out a4 c4 _ R4.out (P3.out.trans (B4.out.mono P3.out.size))
  | true =>
    go_wp2_with (first | (go_at_call 120; ((with_reducible refine CC.out.mono ?_); rintro e W4 ⟨a4, c4, rfl, r4, b4⟩; have R4 := Lib.hid r4; have B4 := Lib.hid b4; clear r4 b4)))
    go_ret2
    exact FIN.out a4 c4 _ R4.out (P3.out.trans (B4.out.mono P3.out.size))
end Go.Proofs.Ytmffobadnmkpbaa
