/-
  term.Vars, walked.
  coneyref07.Size, walked.
  coneyref07.Vars, walked.
  VARIANTS: in plain Lean. Terms whose variables are renamed one to one.
  VARIANTS: shapes, renamings and numbered terms are one. In plain Lean.
  coneylaw07.one, walked.
-/
import Derived.Test.YtmffobadnmkpbaaKtmd2
import Derived.Laws.EntriesVeiled
import Derived.Test.YtmffobadnmkpbaaKlib1
import Derived.Test.YtmffobadnmkpbaaKtmd1
import Derived.Test.YtmffobadnmkpbaaKpars7
namespace Go.Proofs.Ytmffobadnmkpbaa
open Go.RowKit

theorem walk_all (h : Nat) (w0 : World) (hh : w0.heap.size = h) (t : Tm) : WalkC h w0 t := by
  induction t using Tm.ind with
  | h4 s l ih => exact fun va wr v L hB ht hok hn => walk_step h w0 hh _ va wr v L hB ht hok hn ih
  | _ => exact fun va wr v L hB ht hok hn => walk_step h w0 hh _ va wr v L hB ht hok hn (by simp [Tm.args])
theorem VB.start (w : World) (o : Obj) :
    VB w.heap.size w (((((w.alloc o).alloc (.cells #[.slice none 0 0] 29)).alloc (.map #[] 0)).alloc (.cells #[.map (some (w.heap.size + 1 + 1))] 74)).alloc (.cells #[.func (.func 63) #[] #[.pointer (some ⟨w.heap.size + 1 + 1 + 1, 0, none⟩), .pointer (some ⟨w.heap.size + 1, 0, none⟩), .pointer (some ⟨w.heap.size + 1 + 1 + 1 + 1, 0, none⟩)]] 75)) (.slice none 0 0) [] [] := by
  have al : ∀ (W : World) (o : Obj) (B : Nat), B ≤ W.heap.size → Below B W (W.alloc o) := fun W o B h => (Below.refl B W).alloc h o
  refine ⟨?_, ⟨rfl, .inl ⟨rfl, rfl⟩⟩, ?_, ?_, ?_, ?_, by simp⟩
  · have h := Box1.mk' (w.alloc o) (.slice none 0 0) 29
    rw [show (w.alloc o).heap.size = w.heap.size + 1 by simp] at h
    exact ((h.below (al _ _ (w.heap.size + 2) (by simp)) (by omega)).below (al _ _ (w.heap.size + 2) (by simp)) (by omega)).below (al _ _ (w.heap.size + 2) (by simp)) (by omega)
  · have h := Box1.mk' (((w.alloc o).alloc (.cells #[.slice none 0 0] 29)).alloc (.map #[] 0)) (.map (some (w.heap.size + 1 + 1))) 74
    rw [show (((w.alloc o).alloc (.cells #[.slice none 0 0] 29)).alloc (.map #[] 0)).heap.size = w.heap.size + 3 by simp] at h
    exact h.below (al _ _ (w.heap.size + 4) (by simp)) (by omega)
  · have h := Box1.mk' ((((w.alloc o).alloc (.cells #[.slice none 0 0] 29)).alloc (.map #[] 0)).alloc (.cells #[.map (some (w.heap.size + 1 + 1))] 74)) (.func (.func 63) #[] #[.pointer (some ⟨w.heap.size + 1 + 1 + 1, 0, none⟩), .pointer (some ⟨w.heap.size + 1, 0, none⟩), .pointer (some ⟨w.heap.size + 1 + 1 + 1 + 1, 0, none⟩)]) 75
    rw [show ((((w.alloc o).alloc (.cells #[.slice none 0 0] 29)).alloc (.map #[] 0)).alloc (.cells #[.map (some (w.heap.size + 1 + 1))] 74)).heap.size = w.heap.size + 4 by simp] at h
    exact h
  · have h := SetAt.made (P := Try.prog) (K := 3) (E := 4) ((w.alloc o).alloc (.cells #[.slice none 0 0] 29))
    rw [show ((w.alloc o).alloc (.cells #[.slice none 0 0] 29)).heap.size = w.heap.size + 2 by simp] at h
    exact ((h.below (al _ _ (w.heap.size + 3) (by simp)) (by omega)).below (al _ _ (w.heap.size + 3) (by simp)) (by omega)).congr (by simp)
  · exact ((((al _ _ _ (Nat.le_refl _)).trans (al _ _ _ (by simp))).trans (al _ _ _ (by simp; omega))).trans (al _ _ _ (by simp; omega))).trans (al _ _ _ (by simp; omega))
set_option maxRecDepth 100000 in
set_option maxHeartbeats 3200000 in
theorem vars_c (t : Tm) (va : Value) (w : World) (ht : TmAt (fun _ => True) w t va) (hok : t.ok) (hn : t.size ≤ 1000000) :
    Calls Try.prog 20 #[tmV t va] w (RetIs t.vars w) := by
  obtain ⟨ao, cc, rfl, hc1, hc2⟩ := ht.shape
  have HW : Hid (Calls Try.prog 63 #[.agg #[.int .i64 t.kind, .int .i64 t.num, .string t.name, .slice ao t.args.length cc], .pointer (some ⟨w.heap.size + 1 + 1 + 1, 0, none⟩), .pointer (some ⟨w.heap.size + 1, 0, none⟩), .pointer (some ⟨w.heap.size + 1 + 1 + 1 + 1, 0, none⟩)] (((((w.alloc (.cells #[.int .i64 t.kind, .int .i64 t.num, .string t.name, .slice ao t.args.length cc] 24)).alloc (.cells #[.slice none 0 0] 29)).alloc (.map #[] 0)).alloc (.cells #[.map (some (w.heap.size + 1 + 1))] 74)).alloc (.cells #[.func (.func 63) #[] #[.pointer (some ⟨w.heap.size + 1 + 1 + 1, 0, none⟩), .pointer (some ⟨w.heap.size + 1, 0, none⟩), .pointer (some ⟨w.heap.size + 1 + 1 + 1 + 1, 0, none⟩)]] 75)) fun e w' => e = .returned (.tuple #[]) ∧ ∃ v', VB w.heap.size w w' v' t.vars t.vars) :=
    walk_all w.heap.size w rfl t _ _ _ [] (VB.start w _) (ht.mono fun b hb _ => ⟨hb, rfl⟩) hok (by simp; omega)
  have hmm := @run_makeMap Try.prog
  clear ht hok hn
  unfold tmV
  go_enter Try.func20, Try.ntmps20
  go_wp2_with (first | (go_at_call 63; ((with_reducible refine HW.out.mono ?_); rintro e W1 ⟨rfl, v', bb⟩; have B1 := Lib.hid bb; have b1 := bb.obox.c0; clear bb)))
  obtain ⟨a1, c1, rfl, _⟩ := (SlAt.of_own B1.out.own).shape
  go_ret
  exact ⟨_, _, rfl, SlAt.of_own B1.out.own, B1.out.bel⟩
end Go.Proofs.Ytmffobadnmkpbaa
namespace Go.Proofs.Ytmffobadnmkpbaa
open Go.RowKit

theorem box_one {w : World} {a0 a1 a2 a3 : Value} {T : TypeId} {W' : World} (h : Below (w.heap.size + 1) (w.alloc (.cells #[a0, a1, a2, a3] T)) W') :
    W'.cell? ⟨w.heap.size, 0, none⟩ = some a0 ∧ W'.cell? ⟨w.heap.size, 1, none⟩ = some a1 ∧ W'.cell? ⟨w.heap.size, 2, none⟩ = some a2 ∧ W'.cell? ⟨w.heap.size, 3, none⟩ = some a3 := by
  have h0 : BoxL W' w.heap.size [a0, a1, a2, a3] := (BoxL.mk' w #[a0, a1, a2, a3] T).block (h.block _ (by omega))
  exact ⟨(h0.get 0 rfl).1, (h0.get 1 rfl).1, (h0.get 2 rfl).1, (h0.get 3 rfl).1⟩
theorem below_box {w W : World} {o : Obj} (h : Below (w.heap.size + 1) (w.alloc o) W) : Below w.heap.size w W := (below_one w o).trans (h.mono (by omega))
theorem le_box {w W : World} {o : Obj} (h : Below (w.heap.size + 1) (w.alloc o) W) : w.heap.size + 1 ≤ W.heap.size := by have := h.size; simpa using this

def RSizeC (t : Tm) : Prop := ∀ (va : Value) (w : World), TmAt (fun _ => True) w t va → t.size ≤ 1000000000 →
  Calls Try.prog 16 #[tmV t va] w fun e w' => e = .returned (.int .i64 t.size) ∧ Below w.heap.size w w'

set_option maxRecDepth 100000 in
set_option maxHeartbeats 1600000 in
theorem rsize_step (t : Tm) (va : Value) (w : World) (ht : TmAt (fun _ => True) w t va) (hb : t.size ≤ 1000000000) (hC : ∀ u ∈ t.args, RSizeC u) :
    Calls Try.prog 16 #[tmV t va] w fun e w' => e = .returned (.int .i64 t.size) ∧ Below w.heap.size w w' := by
  obtain ⟨ao, cc, rfl, hc1, hc2⟩ := ht.shape
  have HT := Lib.hid (TsAt.of_tm ht)
  have HC := Lib.hid hC
  have HZ := Lib.hid (below_one w)
  have HS := Lib.hid t.size_eq
  have HB := Lib.hid hb
  have hl : t.args.length ≤ 1000000000 := by have h1 := Tm.sizes_len t.args; have h2 := t.size_eq; omega
  unfold tmV
  have H4 := Lib.hid (fun h : t.kind ≠ 4 => Tm.args_kind h)
  clear ht hC hb hc1 hc2
  generalize t.size = z at *
  generalize t.args = l at *
  by_cases hk4 : t.kind = 4
  · rw [hk4]
    clear hk4 H4
    go_enter Try.func16, Try.ntmps16
    go_wp2
    go_loopg [3, 4] l.length (fun n s i wr => ∃ (k : Nat) (S : Int), k ≤ l.length ∧ s = .int .i64 S ∧ i = .int .i64 k ∧ 0 ≤ S ∧ S ≤ 1000000000 ∧ Hid (n = l.length - k) ∧ Hid (S = 1 + Tm.sizes (l.take k)) ∧ Hid (Below (w.heap.size + 1) (w.alloc (.cells #[.int .i64 4, .int .i64 t.num, .string t.name, .slice ao l.length cc] 24)) wr))
    case atStart => exact ⟨0, 1, by omega, rfl, rfl, by omega, by omega, rfl, Lib.hid (by simp [Tm.sizes]), Below.refl _ _⟩
    case round =>
      obtain ⟨k, S, hk, rfl, rfl, hS0, hS1, HN, HE, HW⟩ := hrel
      have HWw := Lib.hid (below_box HW.out)
      obtain ⟨y0, y1, y2, y3⟩ := box_one HW.out
      by_cases hlt : k < l.length
      · obtain ⟨b, off, a1, rfl, -, hcc, hta⟩ := (HT.out.later HWw.out).get k hlt
        obtain ⟨ao1, c1, rfl, _⟩ := hta.shape
        have CX := Lib.hid (HC.out l[k] (List.getElem_mem hlt))
        have HD := Lib.hid (Tm.sizes_take l k hlt)
        have hbb : S + (l[k].size : Int) ≤ 1000000000 := by
          have h1 := HE.out; have h2 := HS.out; have h3 := HD.out; have h4 := Tm.sizes_take_le l (k + 1); have h5 := HB.out; omega
        generalize l[k] = u at *
        obtain ⟨x0, x1, x2, x3⟩ := hcc
        have CC : Hid (Calls Try.prog 16 #[.agg #[.int .i64 u.kind, .int .i64 u.num, .string u.name, .slice ao1 u.args.length c1]] wr fun e w' => e = .returned (.int .i64 u.size) ∧ Below wr.heap.size wr w') := CX.out _ wr hta (by omega)
        clear hta CX
        generalize u.size = y at *
        go_wp2_with (first | (go_at_call 16; ((with_reducible refine CC.out.mono ?_); rintro e W2 ⟨rfl, bb⟩; have BB := Lib.hid bb; clear bb)))
        go_roundg (l.length - (k + 1))
        case measure => have := HN.out; omega
        case rel => exact ⟨k + 1, S + y, by omega, by go_num, by go_num, by omega, by omega, rfl, Lib.hid (by have h1 := HE.out; have h3 := HD.out; omega), HW.out.trans (BB.out.mono (le_box HW.out))⟩
      · obtain rfl : k = l.length := by omega
        have HR : Hid (S = z) := by have h1 := HE.out; have h2 := HS.out; rw [List.take_length] at h1; show _ = _; omega
        go_wp2
        go_ret
        exact ⟨ret_int HR.out, HWw.out⟩
  · have hkb : (t.kind == 4) = false := by simpa using hk4
    have hl0 := H4.out hk4
    subst hl0
    have HR : Hid ((1 : Int) = z) := by have h2 := HS.out; simp only [Tm.sizes] at h2; show _ = _; omega
    clear hk4 H4
    go_enter Try.func16, Try.ntmps16
    go_wp2
    go_loopg [3, 4] 0 (fun n s i wr => s = .int .i64 1 ∧ i = .int .i64 0 ∧ Hid (Below (w.heap.size + 1) (w.alloc (.cells #[.int .i64 t.kind, .int .i64 t.num, .string t.name, .slice ao ([] : List Tm).length cc] 24)) wr))
    case atStart => exact ⟨rfl, rfl, Below.refl _ _⟩
    case round =>
      obtain ⟨rfl, rfl, HW⟩ := hrel
      have HWw := Lib.hid (below_box HW.out)
      obtain ⟨y0, y1, y2, y3⟩ := box_one HW.out
      go_wp2
      go_ret
      exact ⟨ret_int HR.out, HWw.out⟩
theorem rsize_all (t : Tm) : RSizeC t := by
  induction t using Tm.ind with
  | h4 s l ih => exact fun va w ha hb => rsize_step _ va w ha hb ih
  | _ => exact fun va w ha hb => rsize_step _ va w ha hb (by simp [Tm.args])
theorem rsize_c (t : Tm) (va : Value) (w : World) (ht : TmAt (fun _ => True) w t va) (hb : t.size ≤ 1000000000) :
    Calls Try.prog 16 #[tmV t va] w fun e w' => e = .returned (.int .i64 t.size) ∧ Below w.heap.size w w' := rsize_all t va w ht hb
end Go.Proofs.Ytmffobadnmkpbaa
namespace Go.Proofs.Ytmffobadnmkpbaa
open Go.RowKit

/-- a list of the call's own that grows, all of it above a place -/
structure IL (g0 : Nat) (w0 wr : World) (v : Value) (L : List Int) : Prop where
  own : wr.ownsRow g0 3 1 v L.length (L.map (Value.int .i64))
  bel : Below g0 w0 wr
theorem IL.below {g0 : Nat} {w0 wr wr' : World} {v : Value} {L : List Int} (H : IL g0 w0 wr v L) (hg : g0 ≤ wr.heap.size) (hb : Below wr.heap.size wr wr') : IL g0 w0 wr' v L :=
  ⟨own_below H.own hb, H.bel.trans (hb.mono hg)⟩
theorem own_made1 (w : World) (e : TypeId) : (w.alloc (.cells #[] e)).ownsRow w.heap.size e 1 (.slice (some ⟨w.heap.size, 0, none⟩) 0 0) 0 [] :=
  World.ownsRow_made (base := w.heap.size) (size := 1) (e := e) w #[] 0 (by simp) (by decide) rfl
theorem addVs_take (o l : List Int) (k : Nat) (h : k < l.length) : addVs o (l.take (k + 1)) = addV (addVs o (l.take k)) l[k] := by
  rw [List.take_succ_eq_append_getElem h, addVs_append]; rfl
theorem own_lower {w : World} {base base' : Nat} {e : TypeId} {size : Nat} {v : Value} {n : Nat} {xs : List Value} (h : w.ownsRow base e size v n xs) (hb : base' ≤ base) : w.ownsRow base' e size v n xs := by
  refine ⟨h.1, ?_⟩
  rcases h.2 with hn | ⟨g, cap, cur, rfl, hg, rest⟩
  · exact .inl hn
  · exact .inr ⟨g, cap, cur, rfl, Nat.le_trans hb hg, rest⟩
/-- the list L, in a row of its own in new memory -/
def RetOwnI (L : List Int) (w : World) (e : Ending) (w' : World) : Prop := ∃ ao cap, e = .returned (.slice ao L.length cap) ∧ w'.ownsRow w.heap.size 3 1 (.slice ao L.length cap) L.length (L.map (Value.int .i64)) ∧ Below w.heap.size w w'
/-- the list that grows, and the one that is added to it -/
structure IL2 (g0 B1 : Nat) (w0 wr : World) (v : Value) (O : List Int) (lv : Value) (X : List Int) : Prop where
  il : IL g0 w0 wr v O
  lown : wr.ownsRow B1 3 1 lv X.length (X.map (Value.int .i64))
  ap : Apart lv v
  sz : g0 ≤ wr.heap.size
theorem IL2.below {g0 B1 : Nat} {w0 wr wr' : World} {v : Value} {O : List Int} {lv : Value} {X : List Int} (H : IL2 g0 B1 w0 wr v O lv X) (hb : Below wr.heap.size wr wr') : IL2 g0 B1 w0 wr' v O lv X :=
  ⟨H.il.below H.sz hb, own_below H.lown hb, H.ap, Nat.le_trans H.sz hb.size⟩
theorem IL2.push {g0 B1 : Nat} {w0 wr w6 : World} {v : Value} {O : List Int} {lv : Value} {X : List Int} (H : IL2 g0 B1 w0 wr v O lv X) {n : Int} {g c : Nat} (ho : w6.ownsRow g0 3 1 (.slice (some ⟨g, 0, none⟩) (O.length + 1) c) (O.length + 1) (O.map (Value.int .i64) ++ [.int .i64 n])) (hb : Below g0 wr w6) (hk : KeepsBut wr w6 v) (hl : v.ownBlock = some g ∨ wr.heap.size ≤ g) : IL2 g0 B1 w0 w6 (.slice (some ⟨g, 0, none⟩) (O.length + 1) c) (O ++ [n]) lv X := by
  refine ⟨⟨by simpa using ho, H.il.bel.trans hb⟩, own_kept H.lown hk H.ap, fun b h1 h2 => ?_, Nat.le_trans H.sz hb.size⟩
  have h2' : g = b := by simpa [Value.ownBlock] using h2
  subst h2'
  rcases hl with hl | hl
  · exact H.ap g h1 hl
  · have := (H.lown.lt g h1).2; omega
def RVarsC (t : Tm) : Prop := ∀ (va : Value) (w : World), TmAt (fun _ => True) w t va → t.ok → t.size ≤ 1000000 → Calls Try.prog 21 #[tmV t va] w (RetOwnI t.vars w)

set_option maxRecDepth 100000 in
set_option maxHeartbeats 6400000 in
theorem rvars_step (t : Tm) (va : Value) (w : World) (ht : TmAt (fun _ => True) w t va) (hok : t.ok) (hn : t.size ≤ 1000000) (hC : ∀ u ∈ t.args, RVarsC u) :
    Calls Try.prog 21 #[tmV t va] w (RetOwnI t.vars w) := by
  have h4 := fun h => ht.nil_of h
  obtain ⟨ao, cc, rfl, hc1, hc2⟩ := ht.shape
  have HT := Lib.hid (TsAt.of_tm ht)
  have HC := Lib.hid hC
  have HN := Lib.hid hn
  have HOK := Lib.hid (Tm.ok_args hok)
  obtain ⟨i0, hi, hz0, hz1, hz2⟩ := info_parts Try.infoInt
  by_cases hk : t.kind = 1
  · obtain ⟨n, rfl, hn5⟩ := Tm.ok_var hok hk
    have he := h4 (by simp [Tm.kind])
    simp only [Value.slice.injEq, Tm.args, List.length_nil] at he
    obtain ⟨rfl, -, rfl⟩ := he
    clear HT HC HN HOK h4 ht hok hk hc1 hc2 hC hn
    have HO : Hid (((w.alloc (.cells #[.int .i64 1, .int .i64 n, .string ByteArray.empty, .slice none 0 0] 24)).alloc (.cells #[] 3)).ownsRow (w.heap.size + 1) 3 1 (.slice (some ⟨w.heap.size + 1, 0, none⟩) 0 0) 0 []) := by
      have h := own_made1 (w.alloc (.cells #[.int .i64 1, .int .i64 n, .string ByteArray.empty, .slice none 0 0] 24)) 3
      simp only [World.size_alloc] at h
      exact h
    have HB : Hid (∀ T, Below w.heap.size w ((w.alloc (.cells #[.int .i64 1, .int .i64 n, .string ByteArray.empty, .slice none 0 0] 24)).alloc (.cells #[] T))) := fun T => below_two _ _ _
    change Calls _ _ #[.agg #[.int .i64 1, .int .i64 n, .string ByteArray.empty, .slice none 0 0]] _ (RetOwnI [(n : Int)] w)
    go_enter Try.func21, Try.ntmps21
    go_wp2_with (first
      | (at_builtin; refine wpList_appendX rfl (.tmp 11) (.tmp 14) 29 rfl (w.heap.size + 1) 3 i0 (.int .i64 0) 1 8 Try.underlying29 hi hz0 hz1 hz2 rfl (by decide) _ 0 [] rfl HO.out #[.int .i64 n] (w.heap.size + 1 + 1) rfl (by simp) rfl (one1 rfl) ⟨by omega, by omega⟩ (by simp) ?_; intro g cap w6 ho6 hb6 hk6 hl6; have O6 := Lib.hid ho6; have B6 := Lib.hid ((HB.out _).trans (hb6.mono (by simp))); clear ho6 hb6 hk6 hl6))
    go_ret
    exact ⟨_, _, rfl, own_lower O6.out (by omega), B6.out⟩
  · have hkb : (t.kind == 1) = false := by simpa using hk
    have HV := Lib.hid (Tm.vs_args hk)
    have HS := Lib.hid t.size_eq
    have hl : t.args.length ≤ 1000000 := by have h1 := Tm.sizes_len t.args; have h2 := t.size_eq; omega
    have HK4 : Hid (t.kind ≠ 4 → t.args = []) := fun h => Tm.args_kind h
    have HVV : Hid (t.vars = addVs [] (Tm.vss t.args)) := by show _ = _; rw [Tm.vars, Tm.vs_args hk]
    obtain ⟨V, hV⟩ : ∃ V, V = t.vars := ⟨_, rfl⟩
    rw [← hV]
    have HVV2 : Hid (V = addVs [] (Tm.vss t.args)) := hV.trans HVV.out
    have HZ : Hid (∀ o, Below (w.heap.size + 1) (w.alloc o) (w.alloc o)) := fun o => Below.refl _ _
    clear hV HVV ht hC h4 hn hok hk hc1 hc2 HV
    unfold tmV
    generalize t.args = l at *
    by_cases hk4 : t.kind = 4
    · rw [hk4] at hkb ⊢
      clear hk4 HK4
      have HX := Lib.hid (below_one w (.cells #[.int .i64 4, .int .i64 t.num, .string t.name, .slice ao l.length cc] 24))
      have HO : Hid (((w.alloc (.cells #[.int .i64 4, .int .i64 t.num, .string t.name, .slice ao l.length cc] 24)).alloc (.cells #[] 3)).ownsRow (w.heap.size + 1) 3 1 (.slice (some ⟨w.heap.size + 1, 0, none⟩) 0 0) 0 []) := by
        have h := own_made1 (w.alloc (.cells #[.int .i64 4, .int .i64 t.num, .string t.name, .slice ao l.length cc] 24)) 3
        simp only [World.size_alloc] at h
        exact h
      go_enter Try.func21, Try.ntmps21
      go_wp2
      go_loopg [3, 4] l.length (fun n o i wr => ∃ (k : Nat), k ≤ l.length ∧ i = .int .i64 k ∧ Hid (n = l.length - k) ∧ Hid (IL (w.heap.size + 1) (w.alloc (.cells #[.int .i64 4, .int .i64 t.num, .string t.name, .slice ao l.length cc] 24)) wr o (addVs [] (Tm.vss (l.take k)))) ∧ Hid (w.heap.size + 1 ≤ wr.heap.size))
      case atStart => exact ⟨0, by omega, rfl, rfl, ⟨by simpa [Tm.vss, addVs_nil] using HO.out, (HZ.out _).alloc (by simp) _⟩, Lib.hid (by simp)⟩
      case round =>
        obtain ⟨k, hk, rfl, HN2, HW, HSZ⟩ := hrel
        have HB := Lib.hid (HX.out.trans (HW.out.bel.mono (by omega)))
        obtain ⟨y0, y1, y2, y3⟩ := box_one HW.out.bel
        obtain ⟨oa, oc, rfl, _⟩ := (SlAt.of_own HW.out.own).shape
        by_cases hlt : k < l.length
        · obtain ⟨b, off, a1, rfl, -, hcc, hta⟩ := (HT.out.later HB.out).get k hlt
          obtain ⟨ao1, c1, rfl, _⟩ := hta.shape
          have CX := Lib.hid (HC.out l[k] (List.getElem_mem hlt))
          have HD := Lib.hid (Tm.vss_take l k hlt)
          have HO2 := Lib.hid (HOK.out l[k] (List.getElem_mem hlt))
          have hbb : l[k].size ≤ 1000000 := by have h1 := HN.out; have h2 := HS.out; have h3 := Tm.sizes_mem (List.getElem_mem hlt); omega
          have hob : (addVs [] (Tm.vss (l.take k))).length + l[k].vars.length ≤ 1000000 := by
            have h1 := HN.out; have h2 := HS.out; have h3 := Tm.sizes_take l k hlt; have h4 := Tm.sizes_take_le l (k + 1)
            have h5 := addVs_len [] (Tm.vss (l.take k))
            have h6 : (Tm.vss (l.take k)).length ≤ Tm.sizes (l.take k) := Tm.vss_len _
            have h7 := l[k].vars_len
            simp only [List.length_nil] at h5
            omega
          have HE : Hid (addVs [] (Tm.vss (l.take (k + 1))) = addVs (addVs [] (Tm.vss (l.take k))) l[k].vars) := by show _ = _; rw [HD.out, addVs_append, Tm.vars, addVs_dedup]
          generalize l[k] = u at *
          obtain ⟨x0, x1, x2, x3⟩ := hcc
          have hbl := World.block_lt_of_cell? wr _ x0
          have CC : Hid (Calls Try.prog 21 #[.agg #[.int .i64 u.kind, .int .i64 u.num, .string u.name, .slice ao1 u.args.length c1]] wr (RetOwnI u.vars wr)) := CX.out _ wr hta HO2.out hbb
          obtain ⟨W0, hW0⟩ : ∃ W0, W0 = wr := ⟨_, rfl⟩
          have HSW : Hid (w.heap.size + 1 ≤ W0.heap.size) := by rw [hW0]; exact HSZ
          generalize addVs [] (Tm.vss (l.take k)) = O at *
          generalize u.vars = X at *
          have HW0 : Hid (∀ W2, Below wr.heap.size wr W2 → ∀ lv, W2.ownsRow wr.heap.size 3 1 lv X.length (X.map (Value.int .i64)) → IL2 (w.heap.size + 1) wr.heap.size (w.alloc (.cells #[.int .i64 4, .int .i64 t.num, .string t.name, .slice (some ⟨b, off, none⟩) l.length cc] 24)) W2 (.slice oa O.length oc) O lv X) := fun W2 hb lv hl =>
            ⟨HW.out.below HSZ.out hb, hl, fun b h1 h2 => by have := (hl.lt b h1).1; have := (HW.out.own.lt b h2).2; omega, Nat.le_trans HSZ.out hb.size⟩
          clear hta CX
          go_wp2_with (first | (go_at_call 21; ((with_reducible refine CC.out.mono ?_); rintro e W2 ⟨la, lc, rfl, lo, bb⟩; have I2 := Lib.hid (HW0.out W2 bb _ lo); clear bb lo)))
          clear y0 y1 y2 y3 x0 x1 x2 x3 HW HW0 HB HX HO CC
          rw [← hW0] at I2
          clear hW0
          have hxl : X.length ≤ 1000000 := by omega
          go_loopg [3, 6] X.length (fun n o i wr => ∃ (j : Nat), j ≤ X.length ∧ i = .int .i64 j ∧ Hid (n = X.length - j) ∧ Hid (IL2 (w.heap.size + 1) W0.heap.size (w.alloc (.cells #[.int .i64 4, .int .i64 t.num, .string t.name, .slice (some ⟨b, off, none⟩) l.length cc] 24)) wr o (addVs O (X.take j)) (.slice la X.length lc) X))
          case atStart => exact ⟨0, by omega, rfl, rfl, I2⟩
          case round =>
            obtain ⟨j, hj, rfl, HN3, HI⟩ := hrel
            have hZ := addVs_len O (X.take j)
            have hTL := List.length_take_le j X
            have hTM : (X.take j).length ≤ X.length := by rw [List.length_take]; omega
            obtain ⟨oa2, oc2, rfl, _⟩ := (SlAt.of_own HI.out.il.own).shape
            by_cases hlj : j < X.length
            · obtain ⟨b1, o1, rfl, q1, q2, hc1⟩ := (IsAt.own HI.out.lown).getR j hlj
              have j1 : (j : Int) < X.length := by omega
              have HAT := Lib.hid (addVs_take O X j hlj)
              generalize addVs O (X.take j) = O3 at *
              have CH := Lib.hid (has_c _ O3 X[j] wr (IsAt.own HI.out.il.own) (by omega))
              generalize X[j] = x at *
              have HP : Hid (∀ W3, Below wr.heap.size wr W3 → IL2 (w.heap.size + 1) W0.heap.size (w.alloc (.cells #[.int .i64 4, .int .i64 t.num, .string t.name, .slice (some ⟨b, off, none⟩) l.length cc] 24)) W3 (.slice oa2 O3.length oc2) O3 (.slice (some ⟨b1, o1, none⟩) X.length lc) X ∧ W3.cell? ⟨b1, o1 + j, none⟩ = some (.int .i64 x)) := fun W3 h3 => ⟨HI.out.below h3, (h3.cell (p := ⟨b1, o1 + j, none⟩) q2).trans hc1⟩
              have hol : O3.length ≤ 1000000 := by omega
              clear hZ hTL hTM
              by_cases hm : x ∈ O3
              · have HAT2 : Hid (addVs O (X.take (j + 1)) = O3) := HAT.out.trans (addV_mem hm)
                have hd : Hid (decide (x ∈ O3) = true) := decide_eq_true hm
                rw [hd.out] at CH
                clear hm hd
                go_wp2_with (first | (go_at_call 64; ((with_reducible refine CH.out.mono ?_); rintro e W3 ⟨rfl, bb⟩; obtain ⟨i3, c3⟩ := HP.out W3 bb; have I3 := Lib.hid i3; clear bb i3)))
                go_roundg (X.length - (j + 1))
                case measure => have := HN3.out; omega
                case rel => exact ⟨j + 1, by omega, by go_num, rfl, by rw [HAT2.out]; exact I3⟩
              · have HAT2 : Hid (addVs O (X.take (j + 1)) = O3 ++ [x]) := HAT.out.trans (addV_new hm)
                have hd : Hid (decide (x ∈ O3) = false) := decide_eq_false hm
                rw [hd.out] at CH
                clear hm hd
                go_wp2_with (first
                  | (go_at_call 64; ((with_reducible refine CH.out.mono ?_); rintro e W3 ⟨rfl, bb⟩; obtain ⟨i3, c3⟩ := HP.out W3 bb; have I3 := Lib.hid i3; have hb3 := World.block_lt_of_cell? W3 _ c3; clear bb i3))
                  | (at_builtin; refine wpList_appendX rfl (.tmp 47) (.tmp 52) 29 rfl (w.heap.size + 1) 3 i0 (.int .i64 0) 1 8 Try.underlying29 hi hz0 hz1 hz2 rfl (by decide) _ O3.length (O3.map (Value.int .i64)) rfl I3.out.il.own _ _ rfl rfl rfl (one1 rfl) ⟨by omega, by omega⟩ I3.out.sz ?_; intro g cap w6 ho6 hb6 hk6 hl6; have I6 := Lib.hid (I3.out.push ho6 hb6 hk6 hl6); clear ho6 hb6 hk6 hl6))
                go_roundg (X.length - (j + 1))
                case measure => have := HN3.out; omega
                case rel => exact ⟨j + 1, by omega, by go_num, rfl, by rw [HAT2.out]; exact I6⟩
            · obtain rfl : j = X.length := by omega
              go_wp2
              go_roundg (l.length - (k + 1))
              case measure => have := HN2.out; omega
              case rel => exact ⟨k + 1, by omega, by go_num, rfl, Lib.hid (by rw [HE.out]; have h := HI.out.il; simp only [List.take_length] at h ⊢; exact h), Lib.hid HI.out.sz⟩
        · obtain rfl : k = l.length := by omega
          rw [show l.take l.length = l from List.take_length, ← HVV2.out] at HW ⊢
          go_wp2
          go_ret
          exact ⟨_, _, rfl, own_lower HW.out.own (by omega), HB.out⟩
    · have hkb4 : (t.kind == 4) = false := by simpa using hk4
      have hl0 := HK4.out hk4
      subst hl0
      have HX := Lib.hid (below_one w (.cells #[.int .i64 t.kind, .int .i64 t.num, .string t.name, .slice ao 0 cc] 24))
      have HO : Hid (((w.alloc (.cells #[.int .i64 t.kind, .int .i64 t.num, .string t.name, .slice ao 0 cc] 24)).alloc (.cells #[] 3)).ownsRow (w.heap.size + 1) 3 1 (.slice (some ⟨w.heap.size + 1, 0, none⟩) 0 0) 0 []) := by
        have h := own_made1 (w.alloc (.cells #[.int .i64 t.kind, .int .i64 t.num, .string t.name, .slice ao 0 cc] 24)) 3
        simp only [World.size_alloc] at h
        exact h
      have hV0 : V = [] := by have := HVV2.out; simpa [Tm.vss, addVs_nil] using this
      subst hV0
      clear hk4 HK4 HC HT HOK HS HN HVV2
      simp only [List.length_nil]
      go_enter Try.func21, Try.ntmps21
      go_wp2
      go_loopg [3, 4] 0 (fun n o i wr => o = .slice (some ⟨w.heap.size + 1, 0, none⟩) 0 0 ∧ i = .int .i64 0 ∧ Hid (wr = ((w.alloc (.cells #[.int .i64 t.kind, .int .i64 t.num, .string t.name, .slice ao 0 cc] 24)).alloc (.cells #[] 3))))
      case atStart => exact ⟨rfl, rfl, rfl⟩
      case round =>
        obtain ⟨rfl, rfl, HW⟩ := hrel
        have hb : Below (w.heap.size + 1) (w.alloc (.cells #[.int .i64 t.kind, .int .i64 t.num, .string t.name, .slice ao 0 cc] 24)) wr := by rw [HW.out]; exact (Below.refl _ _).alloc (by simp) _
        obtain ⟨y0, y1, y2, y3⟩ := box_one hb
        clear hb
        go_wp2
        go_ret
        exact ⟨_, _, rfl, by rw [HW.out]; exact own_lower HO.out (by omega), by rw [HW.out]; exact HX.out.trans ((Below.refl _ _).alloc (by simp) _)⟩
theorem rvars_all (t : Tm) : RVarsC t := by
  induction t using Tm.ind with
  | h4 s l ih => exact fun va w ht hok hn => rvars_step _ va w ht hok hn ih
  | _ => exact fun va w ht hok hn => rvars_step _ va w ht hok hn (by simp [Tm.args])
end Go.Proofs.Ytmffobadnmkpbaa
namespace Go.Proofs.Ytmffobadnmkpbaa
open Go.RowKit

/-- the first place of a number in a list; -1: none -/
def placeI (l : List Int) (n : Int) : Int := match l with
  | [] => -1
  | x :: r => if x = n then 0 else let k := placeI r n; if k < 0 then -1 else k + 1
theorem placeI_ge (l : List Int) (n : Int) : -1 ≤ placeI l n := by
  induction l with
  | nil => simp [placeI]
  | cons x r ih => simp only [placeI]; split; (· omega); split <;> omega
theorem placeI_mem {l : List Int} {n : Int} : 0 ≤ placeI l n ↔ n ∈ l := by
  induction l with
  | nil => simp [placeI]
  | cons x r ih =>
    simp only [placeI, List.mem_cons]
    by_cases h : x = n
    · simp [h]
    · have := placeI_ge r n
      simp only [h, if_false]
      by_cases hk : placeI r n < 0
      · have : ¬ n ∈ r := fun hm => by have := ih.2 hm; omega
        simp [hk, this, Ne.symm h]
      · have : n ∈ r := ih.1 (by omega)
        simp [hk, this]; omega
theorem placeI_lt {l : List Int} {n : Int} : placeI l n < l.length := by
  induction l with
  | nil => simp [placeI]
  | cons x r ih => simp only [placeI, List.length_cons]; split; (· omega); split <;> omega
theorem placeI_app {l : List Int} {n : Int} (h : n ∈ l) (m : List Int) : placeI (l ++ m) n = placeI l n := by
  induction l with
  | nil => cases h
  | cons x r ih =>
    simp only [List.cons_append, placeI]
    by_cases hx : x = n
    · simp [hx]
    · have hr : n ∈ r := by rcases List.mem_cons.1 h with e | e; (· exact absurd e.symm hx); (· exact e)
      simp only [hx, if_false, ih hr]
theorem placeI_new {l : List Int} {n : Int} (h : n ∉ l) (m : List Int) : placeI (l ++ n :: m) n = l.length := by
  induction l with
  | nil => simp [placeI]
  | cons x r ih =>
    have hx : ¬ x = n := fun e => h (by simp [e])
    have hr : n ∉ r := fun e => h (by simp [e])
    simp only [List.cons_append, placeI, hx, if_false, ih hr, List.length_cons]
    have : ¬ ((r.length : Int) < 0) := by omega
    simp [this]
theorem placeI_inj {l : List Int} {a b : Int} (ha : a ∈ l) (h : placeI l a = placeI l b) : a = b := by
  induction l with
  | nil => cases ha
  | cons x r ih =>
    simp only [placeI] at h
    by_cases h1 : x = a
    · by_cases h2 : x = b
      · exact h1.symm.trans h2
      · exfalso
        have := placeI_ge r b
        rw [if_pos h1, if_neg h2] at h
        split at h <;> omega
    · have har : a ∈ r := by rcases List.mem_cons.1 ha with e | e; (· exact absurd e.symm h1); (· exact e)
      have hpa := placeI_mem.2 har
      simp only [h1, if_false] at h
      by_cases h2 : x = b
      · simp only [h2, if_true] at h
        split at h <;> omega
      · simp only [h2, if_false] at h
        have := placeI_ge r b
        refine ih har ?_
        split at h <;> split at h <;> omega
theorem addVs_prefix (U A : List Int) : ∃ X, addVs U A = U ++ X := by
  induction A generalizing U with
  | nil => exact ⟨[], by simp [addVs_nil]⟩
  | cons a A ih =>
    rw [addVs_cons]
    obtain ⟨X, hX⟩ := ih (addV U a)
    by_cases ha : a ∈ U
    · have e : addV U a = U := addV_mem ha
      rw [e] at hX ⊢; exact ⟨X, hX⟩
    · have e : addV U a = U ++ [a] := addV_new ha
      rw [e] at hX ⊢; exact ⟨a :: X, by rw [hX]; simp⟩
/-- a renaming's pairs, and one more -/
def pairR (r : List (Int × Int)) (a b : Int) : Option (List (Int × Int)) :=
  if a ∉ r.map Prod.fst ∧ b ∉ r.map Prod.snd then some (r ++ [(a, b)]) else if (a, b) ∈ r then some r else none
def pairsR (r : List (Int × Int)) : List (Int × Int) → Option (List (Int × Int))
  | [] => some r
  | p :: l => (pairR r p.1 p.2).bind fun r' => pairsR r' l
theorem pairsR_append (r : List (Int × Int)) (l m : List (Int × Int)) : pairsR r (l ++ m) = (pairsR r l).bind fun r' => pairsR r' m := by
  induction l generalizing r with
  | nil => rfl
  | cons p l ih =>
    simp only [List.cons_append, pairsR]
    cases pairR r p.1 p.2 with
    | none => rfl
    | some r' => simp [ih]
/-- pairs whose firsts, and whose seconds, are all unlike -/
def OneR (r : List (Int × Int)) : Prop := (r.map Prod.fst).Nodup ∧ (r.map Prod.snd).Nodup
theorem OneR.pair {r r' : List (Int × Int)} (h : OneR r) {a b : Int} (hp : pairR r a b = some r') : OneR r' := by
  unfold pairR at hp
  split at hp
  · rename_i hn
    simp only [Option.some.injEq] at hp; subst hp
    constructor
    · rw [List.map_append, List.nodup_append]; exact ⟨h.1, by simp, fun x hx y hy => by simp at hy; subst hy; exact fun e => hn.1 (e ▸ hx)⟩
    · rw [List.map_append, List.nodup_append]; exact ⟨h.2, by simp, fun x hx y hy => by simp at hy; subst hy; exact fun e => hn.2 (e ▸ hx)⟩
  · split at hp
    · simp only [Option.some.injEq] at hp; subst hp; exact h
    · cases hp
theorem zip_mem {U V : List Int} (hl : U.length = V.length) (hU : U.Nodup) (hV : V.Nodup) {a b : Int} (ha : a ∈ U) : (a, b) ∈ U.zip V ↔ placeI U a = placeI V b := by
  induction U generalizing V with
  | nil => cases ha
  | cons u U ih =>
    cases V with
    | nil => simp at hl
    | cons v V =>
      simp only [List.length_cons, Nat.add_right_cancel_iff] at hl
      have hU' := List.nodup_cons.1 hU
      have hV' := List.nodup_cons.1 hV
      simp only [List.zip_cons_cons, List.mem_cons, Prod.mk.injEq, placeI]
      by_cases h1 : u = a
      · subst h1
        by_cases h2 : v = b
        · subst h2; simp
        · have hnz : ¬ (u, b) ∈ U.zip V := fun hm => hU'.1 (List.of_mem_zip hm).1
          have := placeI_ge V b
          simp only [h2, hnz, if_true, if_false, Ne.symm h2, and_false, or_self, false_iff]
          split <;> omega
      · have haU : a ∈ U := by rcases List.mem_cons.1 ha with e | e; (· exact absurd e.symm h1); (· exact e)
        have hpa := placeI_mem.2 haU
        have hge := placeI_ge V b
        rw [or_iff_right (fun h => h1 h.1.symm), ih hl hU'.2 hV'.2 haU]
        by_cases h2 : v = b
        · subst h2
          have : placeI V v < 0 := by
            have : ¬ 0 ≤ placeI V v := fun h => hV'.1 (placeI_mem.1 h)
            omega
          simp only [h1, if_false, if_true]
          split <;> constructor <;> intro h <;> omega
        · simp only [h1, h2, if_false]
          split <;> split <;> constructor <;> intro h <;> omega
theorem pairs_ok (A B : List Int) (hAB : A.length = B.length) : ∀ U V : List Int, U.length = V.length → U.Nodup → V.Nodup →
    ((pairsR (U.zip V) (A.zip B)).isSome = true ↔ A.map (placeI (addVs U A)) = B.map (placeI (addVs V B))) := by
  induction A generalizing B with
  | nil => cases B with
    | nil => intro U V _ _ _; simp [pairsR]
    | cons b B => simp at hAB
  | cons a A ih =>
    cases B with
    | nil => simp at hAB
    | cons b B =>
      simp only [List.length_cons, Nat.add_right_cancel_iff] at hAB
      intro U V hl hU hV
      have e1 : (U.zip V).map Prod.fst = U := List.map_fst_zip (Nat.le_of_eq hl)
      have e2 : (U.zip V).map Prod.snd = V := List.map_snd_zip (Nat.le_of_eq hl.symm)
      simp only [List.zip_cons_cons, pairsR, List.map_cons, List.cons.injEq, addVs_cons]
      obtain ⟨X, hX⟩ := addVs_prefix (addV U a) A
      obtain ⟨Y, hY⟩ := addVs_prefix (addV V b) B
      by_cases ha : a ∈ U <;> by_cases hb : b ∈ V
      · have hA : addV U a = U := addV_mem ha
        have hB : addV V b = V := addV_mem hb
        rw [hA] at hX ⊢; rw [hB] at hY ⊢
        have hpl : placeI (addVs U A) a = placeI U a := by rw [hX]; exact placeI_app ha _
        have hpr : placeI (addVs V B) b = placeI V b := by rw [hY]; exact placeI_app hb _
        rw [hpl, hpr]
        by_cases hm : (a, b) ∈ U.zip V
        · have hp : pairR (U.zip V) a b = some (U.zip V) := by simp [pairR, e1, e2, ha, hm]
          rw [hp]
          simp only [Option.bind_some, ih B hAB U V hl hU hV, (zip_mem hl hU hV ha).1 hm, true_and]
        · have hp : pairR (U.zip V) a b = none := by simp [pairR, e1, e2, ha, hm]
          rw [hp]
          have : ¬ placeI U a = placeI V b := fun h => hm ((zip_mem hl hU hV ha).2 h)
          simp [this]
      · have hA : addV U a = U := addV_mem ha
        have hB : addV V b = V ++ [b] := addV_new hb
        rw [hA] at hX ⊢; rw [hB] at hY ⊢
        have hpl : placeI (addVs U A) a = placeI U a := by rw [hX]; exact placeI_app ha _
        have hpr : placeI (addVs (V ++ [b]) B) b = V.length := by rw [hY]; simpa using placeI_new hb Y
        have hm : ¬ (a, b) ∈ U.zip V := fun h => hb (List.of_mem_zip h).2
        have hp : pairR (U.zip V) a b = none := by simp [pairR, e1, e2, ha, hm]
        have hlt := placeI_lt (l := U) (n := a)
        rw [hp, hpl, hpr]
        have : ¬ placeI U a = (V.length : Int) := by omega
        simp [this]
      · have hA : addV U a = U ++ [a] := addV_new ha
        have hB : addV V b = V := addV_mem hb
        rw [hA] at hX ⊢; rw [hB] at hY ⊢
        have hpl : placeI (addVs (U ++ [a]) A) a = U.length := by rw [hX]; simpa using placeI_new ha X
        have hpr : placeI (addVs V B) b = placeI V b := by rw [hY]; exact placeI_app hb _
        have hm : ¬ (a, b) ∈ U.zip V := fun h => ha (List.of_mem_zip h).1
        have hp : pairR (U.zip V) a b = none := by simp [pairR, e1, e2, hb, hm]
        have hlt := placeI_lt (l := V) (n := b)
        rw [hp, hpl, hpr]
        have : ¬ (U.length : Int) = placeI V b := by omega
        simp [this]
      · have hA : addV U a = U ++ [a] := addV_new ha
        have hB : addV V b = V ++ [b] := addV_new hb
        rw [hA] at hX ⊢; rw [hB] at hY ⊢
        have hpl : placeI (addVs (U ++ [a]) A) a = U.length := by rw [hX]; simpa using placeI_new ha X
        have hpr : placeI (addVs (V ++ [b]) B) b = V.length := by rw [hY]; simpa using placeI_new hb Y
        have hz : (U ++ [a]).zip (V ++ [b]) = U.zip V ++ [(a, b)] := by rw [List.zip_append hl]; rfl
        have hp : pairR (U.zip V) a b = some ((U ++ [a]).zip (V ++ [b])) := by simp [pairR, e1, e2, ha, hb, hz]
        rw [hp, hpl, hpr]
        have hU2 : (U ++ [a]).Nodup := by rw [List.nodup_append]; exact ⟨hU, by simp, fun x hx y hy => by simp at hy; subst hy; exact fun e => ha (e ▸ hx)⟩
        have hV2 : (V ++ [b]).Nodup := by rw [List.nodup_append]; exact ⟨hV, by simp, fun x hx y hy => by simp at hy; subst hy; exact fun e => hb (e ▸ hx)⟩
        simp only [Option.bind_some, ih B hAB (U ++ [a]) (V ++ [b]) (by simp [hl]) hU2 hV2, hl, true_and]
end Go.Proofs.Ytmffobadnmkpbaa
namespace Go.Proofs.Ytmffobadnmkpbaa
open Go.RowKit

mutual
/-- the same but for their variables -/
def skT : Tm → Tm → Bool
  | .nil, .nil => true
  | .var _, .var _ => true
  | .int z, .int y => z == y
  | .atom s, .atom u => s.toList == u.toList
  | .cmp s l, .cmp u m => s.toList == u.toList && skL l m
  | _, _ => false
def skL : List Tm → List Tm → Bool
  | [], [] => true
  | t :: l, u :: m => skT t u && skL l m
  | _, _ => false
end
theorem skL_len : ∀ {l m : List Tm}, skL l m = true → l.length = m.length
  | [], [], _ => rfl
  | t :: l, u :: m, h => by
    simp only [skL, Bool.and_eq_true] at h
    simp [skL_len h.2]
  | [], _ :: _, h => by simp [skL] at h
  | _ :: _, [], h => by simp [skL] at h
theorem sk_vs (a : Tm) : ∀ b, skT a b = true → a.vs.length = b.vs.length := by
  induction a using Tm.ind with
  | h4 s l ih =>
    intro b h
    cases b with
    | cmp u m =>
      simp only [skT, Bool.and_eq_true] at h
      replace h := h.2
      simp only [Tm.vs]
      clear s u
      induction l generalizing m with
      | nil => cases m with
        | nil => rfl
        | cons u m => simp [skL] at h
      | cons t l ih2 =>
        cases m with
        | nil => simp [skL] at h
        | cons u m =>
          simp only [skL, Bool.and_eq_true] at h
          simp only [Tm.vss, List.length_append]
          rw [ih t (by simp) u h.1, ih2 (fun t ht => ih t (by simp [ht])) m h.2]
    | _ => simp [skT] at h
  | _ => intro b h; cases b <;> simp [skT] at h <;> rfl
theorem skL_vss {l m : List Tm} (h : skL l m = true) : (Tm.vss l).length = (Tm.vss m).length := by
  have := sk_vs (.cmp ⟨#[]⟩ l) (.cmp ⟨#[]⟩ m) (by simp [skT, h])
  simpa [Tm.vs] using this
theorem skT_eq (a b : Tm) : skT a b = (decide (a.kind = b.kind) && (decide (a.args.length = b.args.length) && (if a.kind = 1 then true else if a.kind = 2 then a.num == b.num else (a.name.toList == b.name.toList) && skL a.args b.args))) := by
  cases a <;> cases b <;> simp [skT, Tm.kind, Tm.args, Tm.num, Tm.name, skL]
  rename_i s l u m
  intro _ h
  first
    | exact decide_eq_true (skL_len h)
    | exact skL_len h
/-- alike under a renaming: the renaming then -/
def alikeT (r : List (Int × Int)) (a b : Tm) : Option (List (Int × Int)) := if skT a b then pairsR r (a.vs.zip b.vs) else none
def alikeL (r : List (Int × Int)) (l m : List Tm) : Option (List (Int × Int)) := if skL l m then pairsR r ((Tm.vss l).zip (Tm.vss m)) else none
theorem alikeL_cons (r : List (Int × Int)) (t u : Tm) (l m : List Tm) : alikeL r (t :: l) (u :: m) = (alikeT r t u).bind fun r' => alikeL r' l m := by
  unfold alikeL alikeT
  by_cases h1 : skT t u = true
  · simp only [skL, h1, Bool.true_and, if_true, Tm.vss]
    rw [List.zip_append (sk_vs t u h1), pairsR_append]
    by_cases h2 : skL l m = true
    · simp [h2]
    · simp only [h2]
      cases pairsR r (t.vs.zip u.vs) <;> simp
  · simp [skL, h1]
theorem alikeL_nil (r : List (Int × Int)) : alikeL r [] [] = some r := rfl
mutual
/-- its variables by their places in a list -/
def numT (L : List Int) : Tm → Tm
  | .var n => .var (placeI L n).toNat
  | .cmp s l => .cmp s (numTs L l)
  | .nil => .nil
  | .int z => .int z
  | .atom s => .atom s
def numTs (L : List Int) : List Tm → List Tm
  | [] => []
  | t :: l => numT L t :: numTs L l
end
theorem numTs_len (L : List Int) (l : List Tm) : (numTs L l).length = l.length := by
  induction l with
  | nil => rfl
  | cons t l ih => simp [numTs, ih]
theorem name_eq {s u : ByteArray} : (s.toList == u.toList) = true ↔ s = u := by
  constructor
  · intro h; exact toList_inj (by simpa using h)
  · rintro rfl; simp
theorem num_eq (L M : List Int) (a : Tm) : ∀ b, (∀ x ∈ a.vs, x ∈ L) → (∀ x ∈ b.vs, x ∈ M) → (numT L a = numT M b ↔ skT a b = true ∧ a.vs.map (placeI L) = b.vs.map (placeI M)) := by
  induction a using Tm.ind with
  | h4 s l ih =>
    intro b ha hb
    cases b with
    | cmp u m =>
      simp only [numT, Tm.cmp.injEq, skT, Bool.and_eq_true, name_eq, Tm.vs] at *
      rw [and_assoc]
      refine and_congr_right fun hsu => ?_
      clear hsu s u
      induction l generalizing m with
      | nil => cases m with
        | nil => simp [numTs, skL, Tm.vss]
        | cons u m => simp [numTs, skL]
      | cons t l ih2 =>
        cases m with
        | nil => simp [numTs, skL]
        | cons u m =>
          simp only [Tm.vss, List.mem_append] at ha hb
          simp only [numTs, List.cons.injEq, skL, Bool.and_eq_true, Tm.vss, List.map_append]
          rw [ih t (by simp) u (fun x hx => ha x (.inl hx)) (fun x hx => hb x (.inl hx)), ih2 (fun t ht => ih t (by simp [ht])) (fun x hx => ha x (.inr hx)) m (fun x hx => hb x (.inr hx))]
          constructor
          · rintro ⟨⟨h1, h2⟩, h3, h4⟩; exact ⟨⟨h1, h3⟩, by rw [h2, h4]⟩
          · rintro ⟨⟨h1, h3⟩, h5⟩
            have := List.append_inj h5 (by simpa using sk_vs t u h1)
            exact ⟨⟨h1, this.1⟩, h3, this.2⟩
    | _ => simp [numT, skT]
  | h1 n =>
    intro b ha hb
    cases b with
    | var m =>
      simp only [Tm.vs, List.mem_singleton, forall_eq] at ha hb
      have h1 := placeI_mem.2 ha
      have h2 := placeI_mem.2 hb
      simp only [numT, Tm.var.injEq, skT, true_and, Tm.vs, List.map_cons, List.map_nil, List.cons.injEq, and_true]
      omega
    | _ => simp [numT, skT]
  | h3 s =>
    intro b _ _
    cases b with
    | atom u => simp only [numT, Tm.atom.injEq, skT, name_eq, Tm.vs, List.map_nil, and_true]
    | _ => simp [numT, skT]
  | _ => intro b _ _; cases b <;> simp [numT, skT, Tm.vs]
def variantB (a b : Tm) : Bool := (alikeT [] a b).isSome
theorem variant_iff (a b : Tm) : variantB a b = true ↔ numT a.vars a = numT b.vars b := by
  rw [num_eq a.vars b.vars a b (fun x hx => mem_addVs.2 (.inr hx)) (fun x hx => mem_addVs.2 (.inr hx))]
  unfold variantB alikeT
  by_cases h : skT a b = true
  · rw [if_pos h]
    have := pairs_ok a.vs b.vs (sk_vs a b h) [] [] rfl List.nodup_nil List.nodup_nil
    simp only [List.zip_nil_left] at this
    rw [this]; simp [h, Tm.vars]
  · simp [h]
theorem variant_num (a b : Tm) : variantB a b = decide (cmpT (numT a.vars a) (numT b.vars b) = 0) := by
  apply Bool.eq_iff_iff.2
  rw [variant_iff, decide_eq_true_iff]
  exact ⟨fun h => by rw [h]; exact cmpT_self _, cmpT_eq0 _ _⟩
theorem variant_sym (a b : Tm) : variantB b a = variantB a b := by
  apply Bool.eq_iff_iff.2
  rw [variant_iff, variant_iff]; exact ⟨Eq.symm, Eq.symm⟩
theorem variant_self (a : Tm) : variantB a a = true := (variant_iff a a).2 rfl
end Go.Proofs.Ytmffobadnmkpbaa
namespace Go.Proofs.Ytmffobadnmkpbaa
open Go.RowKit

/-- what one tells: a term, and whether the text tells it -/
def RetOne7 (w : World) (e : Ending) (w' : World) : Prop := ∃ t ao cap b, e = .returned (.tuple #[.agg #[.int .i64 t.kind, .int .i64 t.num, .string t.name, .slice ao t.args.length cap], .bool b]) ∧ TmAt (fun b => w.heap.size ≤ b) w' t (.slice ao t.args.length cap) ∧ (b = true → Fine t) ∧ Below w.heap.size w w'
theorem heap_set4 (h : Nat) (W : World) (a b c d : Value) {k : Nat} (hk : k ≠ h) : ((((W.setCell ⟨h, 0, none⟩ a).setCell ⟨h, 1, none⟩ b).setCell ⟨h, 2, none⟩ c).setCell ⟨h, 3, none⟩ d).heap[k]? = W.heap[k]? := by
  rw [Below.heap_setCell _ _ _ _ hk, Below.heap_setCell _ _ _ _ hk, Below.heap_setCell _ _ _ _ hk, Below.heap_setCell _ _ _ _ hk]
theorem box_set4 (w W : World) {x0 x1 x2 x3 a b c d : Value} {T : TypeId} (h : Below (w.heap.size + 1) (w.alloc (.cells #[x0, x1, x2, x3] T)) W) : Below w.heap.size w ((((W.setCell ⟨w.heap.size, 0, none⟩ a).setCell ⟨w.heap.size, 1, none⟩ b).setCell ⟨w.heap.size, 2, none⟩ c).setCell ⟨w.heap.size, 3, none⟩ d) :=
  ((((below_one' h).setCell (p := ⟨w.heap.size, 0, none⟩) (Nat.le_refl _) _).setCell (p := ⟨w.heap.size, 1, none⟩) (Nat.le_refl _) _).setCell (p := ⟨w.heap.size, 2, none⟩) (Nat.le_refl _) _).setCell (p := ⟨w.heap.size, 3, none⟩) (Nat.le_refl _) _
where below_one' {w W : World} {o : Obj} (h : Below (w.heap.size + 1) (w.alloc o) W) : Below w.heap.size w W := ((Below.refl w.heap.size w).alloc (Nat.le_refl _) o).trans (h.mono (by omega))
set_option maxRecDepth 100000 in
set_option maxHeartbeats 1600000 in
theorem one7_c (s : ByteArray) (w : World) : Calls Try.prog 14 #[.string s] w (RetOne7 w) := by
  have HZ : Hid (∀ T, Below w.heap.size w (w.alloc (.cells #[.int .i64 0, .int .i64 0, .string ⟨#[]⟩, .slice none 0 0] T))) := fun T => (Below.refl _ _).alloc (Nat.le_refl _) _
  by_cases hs : 1024 < s.size
  · go_enter Try.func14, Try.ntmps14
    go_wp2
    refine bodyPost_ret (v := .tuple #[.agg #[.int .i64 0, .int .i64 0, .string ⟨#[]⟩, .slice none 0 0], .bool false]) (by simp [results, Try.results14, go_sem]; try rfl) rfl ?_
    exact ⟨.nil, none, 0, false, rfl, .leaf rfl, (fun h => by cases h), HZ.out _⟩
  have CR := Lib.hid (fun T => one5_c s (by omega) (w.alloc (.cells #[.int .i64 0, .int .i64 0, .string ⟨#[]⟩, .slice none 0 0] T)))
  go_enter Try.func14, Try.ntmps14
  go_wp2_with (first | (go_at_call 60; ((with_reducible refine (CR.out _).mono ?_); rintro e W1 ⟨t, a, an, nn, cn, pl, x, rfl, ht, hok, b1⟩; obtain ⟨p0, q0, rfl, _⟩ := ht.shape; have HT := Lib.hid ht; have HO := Lib.hid hok; have B1 := Lib.hid b1; have hbx := (BoxL.mk' w #[.int .i64 0, .int .i64 0, .string ⟨#[]⟩, .slice none 0 0] 24).below b1 (by simp); obtain ⟨x0, f0⟩ := hbx.get 0 rfl; obtain ⟨x1, f1⟩ := hbx.get 1 rfl; obtain ⟨x2, f2⟩ := hbx.get 2 rfl; obtain ⟨x3, f3⟩ := hbx.get 3 rfl; have hsz := hbx.lt (by simp); have HBX := Lib.hid hbx; clear ht hok b1 hbx)))
  refine bodyPost_ret (v := .tuple #[.agg #[.int .i64 t.kind, .int .i64 t.num, .string t.name, .slice p0 t.args.length q0], .bool (x == 0)]) ?_ rfl ?_
  · have h4 := (((HBX.out.set 0 (by simp) (.int .i64 t.kind)).set 1 (by simp) (.int .i64 t.num)).set 2 (by simp) (.string t.name)).set 3 (by simp) (.slice p0 t.args.length q0)
    have h5 := h4.block (Below.heap_alloc _ (.cells #[.int .i64 t.kind, .int .i64 t.num, .string t.name, .slice p0 t.args.length q0, .slice an nn cn] 69) w.heap.size (h4.lt (by simp)))
    obtain ⟨z0, _⟩ := h5.get 0 rfl
    obtain ⟨z1, _⟩ := h5.get 1 rfl
    obtain ⟨z2, _⟩ := h5.get 2 rfl
    obtain ⟨z3, _⟩ := h5.get 3 rfl
    clear h5 h4 x0 x1 x2 x3 f0 f1 f2 f3
    simp [results, Try.results14, go_sem, z0, z1, z2, z3]
    try rfl
  · refine ⟨t, p0, q0, x == 0, rfl, HT.out.mono fun b hb hp => ?_, fun h => HO.out (by simpa using h), ?_⟩
    · have hp' : w.heap.size + 1 ≤ b := by simpa using hp
      refine ⟨by omega, ?_⟩
      rw [Below.heap_alloc _ _ b (by simpa using hb), heap_set4 _ _ _ _ _ _ (by omega)]
    · have hb1 := B1.out
      simp only [World.size_alloc] at hb1
      exact (box_set4 w _ hb1).alloc (by simp; omega) _
end Go.Proofs.Ytmffobadnmkpbaa
