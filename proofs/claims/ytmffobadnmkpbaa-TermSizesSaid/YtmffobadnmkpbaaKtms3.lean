/-
  coneyref07.Size, walked.
  coneyref07.Vars, walked.
  term.Depth, walked.
  coneyref07.Depth, walked.
  The law TermSizes, walked.
-/
import Derived.Test.YtmffobadnmkpbaaKtms2
import Derived.Test.YtmffobadnmkpbaaKlib1
import Derived.Test.YtmffobadnmkpbaaKtms1
import Derived.Deep.RegionHeld3
namespace Go.Proofs.Ytmffobadnmkpbaa
open Go.RowKit

theorem box_one {w : World} {a0 a1 a2 a3 : Value} {T : TypeId} {W' : World} (h : Below (w.heap.size + 1) (w.alloc (.cells #[a0, a1, a2, a3] T)) W') :
    W'.cell? ⟨w.heap.size, 0, none⟩ = some a0 ∧ W'.cell? ⟨w.heap.size, 1, none⟩ = some a1 ∧ W'.cell? ⟨w.heap.size, 2, none⟩ = some a2 ∧ W'.cell? ⟨w.heap.size, 3, none⟩ = some a3 := by
  have h0 : BoxL W' w.heap.size [a0, a1, a2, a3] := (BoxL.mk' w #[a0, a1, a2, a3] T).block (h.block _ (by omega))
  exact ⟨(h0.get 0 rfl).1, (h0.get 1 rfl).1, (h0.get 2 rfl).1, (h0.get 3 rfl).1⟩
theorem below_box {w W : World} {o : Obj} (h : Below (w.heap.size + 1) (w.alloc o) W) : Below w.heap.size w W := (below_one w o).trans (h.mono (by omega))
theorem le_box {w W : World} {o : Obj} (h : Below (w.heap.size + 1) (w.alloc o) W) : w.heap.size + 1 ≤ W.heap.size := by have := h.size; simpa using this

def RSizeC (t : Tm) : Prop := ∀ (va : Value) (w : World), TmAt (fun _ => True) w t va → t.size ≤ 1000000000 →
  Calls Try.prog 16 #[tmV t va] w fun e w' => e = .returned (.int .i64 t.size) ∧ Below w.heap.size w w'

set_option maxRecDepth 100000 in
set_option maxHeartbeats 1600000 in
theorem rsize_step (t : Tm) (va : Value) (w : World) (ht : TmAt (fun _ => True) w t va) (hb : t.size ≤ 1000000000) (hC : ∀ u ∈ t.args, RSizeC u) :
    Calls Try.prog 16 #[tmV t va] w fun e w' => e = .returned (.int .i64 t.size) ∧ Below w.heap.size w w' := by
  obtain ⟨ao, cc, rfl, hc1, hc2⟩ := ht.shape
  have HT := Lib.hid (TsAt.of_tm ht)
  have HC := Lib.hid hC
  have HZ := Lib.hid (below_one w)
  have HS := Lib.hid t.size_eq
  have HB := Lib.hid hb
  have hl : t.args.length ≤ 1000000000 := by have h1 := Tm.sizes_len t.args; have h2 := t.size_eq; omega
  unfold tmV
  have H4 := Lib.hid (fun h : t.kind ≠ 4 => Tm.args_kind h)
  clear ht hC hb hc1 hc2
  generalize t.size = z at *
  generalize t.args = l at *
  by_cases hk4 : t.kind = 4
  · rw [hk4]
    clear hk4 H4
    go_enter Try.func16, Try.ntmps16
    go_wp2
    go_loopg [3, 4] l.length (fun n s i wr => ∃ (k : Nat) (S : Int), k ≤ l.length ∧ s = .int .i64 S ∧ i = .int .i64 k ∧ 0 ≤ S ∧ S ≤ 1000000000 ∧ Hid (n = l.length - k) ∧ Hid (S = 1 + Tm.sizes (l.take k)) ∧ Hid (Below (w.heap.size + 1) (w.alloc (.cells #[.int .i64 4, .int .i64 t.num, .string t.name, .slice ao l.length cc] 24)) wr))
    case atStart => exact ⟨0, 1, by omega, rfl, rfl, by omega, by omega, rfl, Lib.hid (by simp [Tm.sizes]), Below.refl _ _⟩
    case round =>
      obtain ⟨k, S, hk, rfl, rfl, hS0, hS1, HN, HE, HW⟩ := hrel
      have HWw := Lib.hid (below_box HW.out)
      obtain ⟨y0, y1, y2, y3⟩ := box_one HW.out
      by_cases hlt : k < l.length
      · obtain ⟨b, off, a1, rfl, -, hcc, hta⟩ := (HT.out.later HWw.out).get k hlt
        obtain ⟨ao1, c1, rfl, _⟩ := hta.shape
        have CX := Lib.hid (HC.out l[k] (List.getElem_mem hlt))
        have HD := Lib.hid (Tm.sizes_take l k hlt)
        have hbb : S + (l[k].size : Int) ≤ 1000000000 := by
          have h1 := HE.out; have h2 := HS.out; have h3 := HD.out; have h4 := Tm.sizes_take_le l (k + 1); have h5 := HB.out; omega
        generalize l[k] = u at *
        obtain ⟨x0, x1, x2, x3⟩ := hcc
        have CC : Hid (Calls Try.prog 16 #[.agg #[.int .i64 u.kind, .int .i64 u.num, .string u.name, .slice ao1 u.args.length c1]] wr fun e w' => e = .returned (.int .i64 u.size) ∧ Below wr.heap.size wr w') := CX.out _ wr hta (by omega)
        clear hta CX
        generalize u.size = y at *
        go_wp2_with (first | (go_at_call 16; ((with_reducible refine CC.out.mono ?_); rintro e W2 ⟨rfl, bb⟩; have BB := Lib.hid bb; clear bb)))
        go_roundg (l.length - (k + 1))
        case measure => have := HN.out; omega
        case rel => exact ⟨k + 1, S + y, by omega, by go_num, by go_num, by omega, by omega, rfl, Lib.hid (by have h1 := HE.out; have h3 := HD.out; omega), HW.out.trans (BB.out.mono (le_box HW.out))⟩
      · obtain rfl : k = l.length := by omega
        have HR : Hid (S = z) := by have h1 := HE.out; have h2 := HS.out; rw [List.take_length] at h1; show _ = _; omega
        go_wp2
        go_ret
        exact ⟨ret_int HR.out, HWw.out⟩
  · have hkb : (t.kind == 4) = false := by simpa using hk4
    have hl0 := H4.out hk4
    subst hl0
    have HR : Hid ((1 : Int) = z) := by have h2 := HS.out; simp only [Tm.sizes] at h2; show _ = _; omega
    clear hk4 H4
    go_enter Try.func16, Try.ntmps16
    go_wp2
    go_loopg [3, 4] 0 (fun n s i wr => s = .int .i64 1 ∧ i = .int .i64 0 ∧ Hid (Below (w.heap.size + 1) (w.alloc (.cells #[.int .i64 t.kind, .int .i64 t.num, .string t.name, .slice ao ([] : List Tm).length cc] 24)) wr))
    case atStart => exact ⟨rfl, rfl, Below.refl _ _⟩
    case round =>
      obtain ⟨rfl, rfl, HW⟩ := hrel
      have HWw := Lib.hid (below_box HW.out)
      obtain ⟨y0, y1, y2, y3⟩ := box_one HW.out
      go_wp2
      go_ret
      exact ⟨ret_int HR.out, HWw.out⟩
theorem rsize_all (t : Tm) : RSizeC t := by
  induction t using Tm.ind with
  | h4 s l ih => exact fun va w ha hb => rsize_step _ va w ha hb ih
  | _ => exact fun va w ha hb => rsize_step _ va w ha hb (by simp [Tm.args])
theorem rsize_c (t : Tm) (va : Value) (w : World) (ht : TmAt (fun _ => True) w t va) (hb : t.size ≤ 1000000000) :
    Calls Try.prog 16 #[tmV t va] w fun e w' => e = .returned (.int .i64 t.size) ∧ Below w.heap.size w w' := rsize_all t va w ht hb
end Go.Proofs.Ytmffobadnmkpbaa
namespace Go.Proofs.Ytmffobadnmkpbaa
open Go.RowKit

/-- a list of the call's own that grows, all of it above a place -/
structure IL (g0 : Nat) (w0 wr : World) (v : Value) (L : List Int) : Prop where
  own : wr.ownsRow g0 3 1 v L.length (L.map (Value.int .i64))
  bel : Below g0 w0 wr
theorem IL.below {g0 : Nat} {w0 wr wr' : World} {v : Value} {L : List Int} (H : IL g0 w0 wr v L) (hg : g0 ≤ wr.heap.size) (hb : Below wr.heap.size wr wr') : IL g0 w0 wr' v L :=
  ⟨own_below H.own hb, H.bel.trans (hb.mono hg)⟩
theorem own_made1 (w : World) (e : TypeId) : (w.alloc (.cells #[] e)).ownsRow w.heap.size e 1 (.slice (some ⟨w.heap.size, 0, none⟩) 0 0) 0 [] :=
  World.ownsRow_made (base := w.heap.size) (size := 1) (e := e) w #[] 0 (by simp) (by decide) rfl
theorem addVs_take (o l : List Int) (k : Nat) (h : k < l.length) : addVs o (l.take (k + 1)) = addV (addVs o (l.take k)) l[k] := by
  rw [List.take_succ_eq_append_getElem h, addVs_append]; rfl
theorem own_lower {w : World} {base base' : Nat} {e : TypeId} {size : Nat} {v : Value} {n : Nat} {xs : List Value} (h : w.ownsRow base e size v n xs) (hb : base' ≤ base) : w.ownsRow base' e size v n xs := by
  refine ⟨h.1, ?_⟩
  rcases h.2 with hn | ⟨g, cap, cur, rfl, hg, rest⟩
  · exact .inl hn
  · exact .inr ⟨g, cap, cur, rfl, Nat.le_trans hb hg, rest⟩
/-- the list L, in a row of its own in new memory -/
def RetOwnI (L : List Int) (w : World) (e : Ending) (w' : World) : Prop := ∃ ao cap, e = .returned (.slice ao L.length cap) ∧ w'.ownsRow w.heap.size 3 1 (.slice ao L.length cap) L.length (L.map (Value.int .i64)) ∧ Below w.heap.size w w'
/-- the list that grows, and the one that is added to it -/
structure IL2 (g0 B1 : Nat) (w0 wr : World) (v : Value) (O : List Int) (lv : Value) (X : List Int) : Prop where
  il : IL g0 w0 wr v O
  lown : wr.ownsRow B1 3 1 lv X.length (X.map (Value.int .i64))
  ap : Apart lv v
  sz : g0 ≤ wr.heap.size
theorem IL2.below {g0 B1 : Nat} {w0 wr wr' : World} {v : Value} {O : List Int} {lv : Value} {X : List Int} (H : IL2 g0 B1 w0 wr v O lv X) (hb : Below wr.heap.size wr wr') : IL2 g0 B1 w0 wr' v O lv X :=
  ⟨H.il.below H.sz hb, own_below H.lown hb, H.ap, Nat.le_trans H.sz hb.size⟩
theorem IL2.push {g0 B1 : Nat} {w0 wr w6 : World} {v : Value} {O : List Int} {lv : Value} {X : List Int} (H : IL2 g0 B1 w0 wr v O lv X) {n : Int} {g c : Nat} (ho : w6.ownsRow g0 3 1 (.slice (some ⟨g, 0, none⟩) (O.length + 1) c) (O.length + 1) (O.map (Value.int .i64) ++ [.int .i64 n])) (hb : Below g0 wr w6) (hk : KeepsBut wr w6 v) (hl : v.ownBlock = some g ∨ wr.heap.size ≤ g) : IL2 g0 B1 w0 w6 (.slice (some ⟨g, 0, none⟩) (O.length + 1) c) (O ++ [n]) lv X := by
  refine ⟨⟨by simpa using ho, H.il.bel.trans hb⟩, own_kept H.lown hk H.ap, fun b h1 h2 => ?_, Nat.le_trans H.sz hb.size⟩
  have h2' : g = b := by simpa [Value.ownBlock] using h2
  subst h2'
  rcases hl with hl | hl
  · exact H.ap g h1 hl
  · have := (H.lown.lt g h1).2; omega
def RVarsC (t : Tm) : Prop := ∀ (va : Value) (w : World), TmAt (fun _ => True) w t va → t.ok → t.size ≤ 1000000 → Calls Try.prog 21 #[tmV t va] w (RetOwnI t.vars w)

set_option maxRecDepth 100000 in
set_option maxHeartbeats 6400000 in
theorem rvars_step (t : Tm) (va : Value) (w : World) (ht : TmAt (fun _ => True) w t va) (hok : t.ok) (hn : t.size ≤ 1000000) (hC : ∀ u ∈ t.args, RVarsC u) :
    Calls Try.prog 21 #[tmV t va] w (RetOwnI t.vars w) := by
  have h4 := fun h => ht.nil_of h
  obtain ⟨ao, cc, rfl, hc1, hc2⟩ := ht.shape
  have HT := Lib.hid (TsAt.of_tm ht)
  have HC := Lib.hid hC
  have HN := Lib.hid hn
  have HOK := Lib.hid (Tm.ok_args hok)
  obtain ⟨i0, hi, hz0, hz1, hz2⟩ := info_parts Try.infoInt
  by_cases hk : t.kind = 1
  · obtain ⟨n, rfl, hn5⟩ := Tm.ok_var hok hk
    have he := h4 (by simp [Tm.kind])
    simp only [Value.slice.injEq, Tm.args, List.length_nil] at he
    obtain ⟨rfl, -, rfl⟩ := he
    clear HT HC HN HOK h4 ht hok hk hc1 hc2 hC hn
    have HO : Hid (((w.alloc (.cells #[.int .i64 1, .int .i64 n, .string ByteArray.empty, .slice none 0 0] 24)).alloc (.cells #[] 3)).ownsRow (w.heap.size + 1) 3 1 (.slice (some ⟨w.heap.size + 1, 0, none⟩) 0 0) 0 []) := by
      have h := own_made1 (w.alloc (.cells #[.int .i64 1, .int .i64 n, .string ByteArray.empty, .slice none 0 0] 24)) 3
      simp only [World.size_alloc] at h
      exact h
    have HB : Hid (∀ T, Below w.heap.size w ((w.alloc (.cells #[.int .i64 1, .int .i64 n, .string ByteArray.empty, .slice none 0 0] 24)).alloc (.cells #[] T))) := fun T => below_two _ _ _
    change Calls _ _ #[.agg #[.int .i64 1, .int .i64 n, .string ByteArray.empty, .slice none 0 0]] _ (RetOwnI [(n : Int)] w)
    go_enter Try.func21, Try.ntmps21
    go_wp2_with (first
      | (at_builtin; refine wpList_appendX rfl (.tmp 11) (.tmp 14) 29 rfl (w.heap.size + 1) 3 i0 (.int .i64 0) 1 8 Try.underlying29 hi hz0 hz1 hz2 rfl (by decide) _ 0 [] rfl HO.out #[.int .i64 n] (w.heap.size + 1 + 1) rfl (by simp) rfl (one1 rfl) ⟨by omega, by omega⟩ (by simp) ?_; intro g cap w6 ho6 hb6 hk6 hl6; have O6 := Lib.hid ho6; have B6 := Lib.hid ((HB.out _).trans (hb6.mono (by simp))); clear ho6 hb6 hk6 hl6))
    go_ret
    exact ⟨_, _, rfl, own_lower O6.out (by omega), B6.out⟩
  · have hkb : (t.kind == 1) = false := by simpa using hk
    have HV := Lib.hid (Tm.vs_args hk)
    have HS := Lib.hid t.size_eq
    have hl : t.args.length ≤ 1000000 := by have h1 := Tm.sizes_len t.args; have h2 := t.size_eq; omega
    have HK4 : Hid (t.kind ≠ 4 → t.args = []) := fun h => Tm.args_kind h
    have HVV : Hid (t.vars = addVs [] (Tm.vss t.args)) := by show _ = _; rw [Tm.vars, Tm.vs_args hk]
    obtain ⟨V, hV⟩ : ∃ V, V = t.vars := ⟨_, rfl⟩
    rw [← hV]
    have HVV2 : Hid (V = addVs [] (Tm.vss t.args)) := hV.trans HVV.out
    have HZ : Hid (∀ o, Below (w.heap.size + 1) (w.alloc o) (w.alloc o)) := fun o => Below.refl _ _
    clear hV HVV ht hC h4 hn hok hk hc1 hc2 HV
    unfold tmV
    generalize t.args = l at *
    by_cases hk4 : t.kind = 4
    · rw [hk4] at hkb ⊢
      clear hk4 HK4
      have HX := Lib.hid (below_one w (.cells #[.int .i64 4, .int .i64 t.num, .string t.name, .slice ao l.length cc] 24))
      have HO : Hid (((w.alloc (.cells #[.int .i64 4, .int .i64 t.num, .string t.name, .slice ao l.length cc] 24)).alloc (.cells #[] 3)).ownsRow (w.heap.size + 1) 3 1 (.slice (some ⟨w.heap.size + 1, 0, none⟩) 0 0) 0 []) := by
        have h := own_made1 (w.alloc (.cells #[.int .i64 4, .int .i64 t.num, .string t.name, .slice ao l.length cc] 24)) 3
        simp only [World.size_alloc] at h
        exact h
      go_enter Try.func21, Try.ntmps21
      go_wp2
      go_loopg [3, 4] l.length (fun n o i wr => ∃ (k : Nat), k ≤ l.length ∧ i = .int .i64 k ∧ Hid (n = l.length - k) ∧ Hid (IL (w.heap.size + 1) (w.alloc (.cells #[.int .i64 4, .int .i64 t.num, .string t.name, .slice ao l.length cc] 24)) wr o (addVs [] (Tm.vss (l.take k)))) ∧ Hid (w.heap.size + 1 ≤ wr.heap.size))
      case atStart => exact ⟨0, by omega, rfl, rfl, ⟨by simpa [Tm.vss, addVs_nil] using HO.out, (HZ.out _).alloc (by simp) _⟩, Lib.hid (by simp)⟩
      case round =>
        obtain ⟨k, hk, rfl, HN2, HW, HSZ⟩ := hrel
        have HB := Lib.hid (HX.out.trans (HW.out.bel.mono (by omega)))
        obtain ⟨y0, y1, y2, y3⟩ := box_one HW.out.bel
        obtain ⟨oa, oc, rfl, _⟩ := (SlAt.of_own HW.out.own).shape
        by_cases hlt : k < l.length
        · obtain ⟨b, off, a1, rfl, -, hcc, hta⟩ := (HT.out.later HB.out).get k hlt
          obtain ⟨ao1, c1, rfl, _⟩ := hta.shape
          have CX := Lib.hid (HC.out l[k] (List.getElem_mem hlt))
          have HD := Lib.hid (Tm.vss_take l k hlt)
          have HO2 := Lib.hid (HOK.out l[k] (List.getElem_mem hlt))
          have hbb : l[k].size ≤ 1000000 := by have h1 := HN.out; have h2 := HS.out; have h3 := Tm.sizes_mem (List.getElem_mem hlt); omega
          have hob : (addVs [] (Tm.vss (l.take k))).length + l[k].vars.length ≤ 1000000 := by
            have h1 := HN.out; have h2 := HS.out; have h3 := Tm.sizes_take l k hlt; have h4 := Tm.sizes_take_le l (k + 1)
            have h5 := addVs_len [] (Tm.vss (l.take k))
            have h6 : (Tm.vss (l.take k)).length ≤ Tm.sizes (l.take k) := Tm.vss_len _
            have h7 := l[k].vars_len
            simp only [List.length_nil] at h5
            omega
          have HE : Hid (addVs [] (Tm.vss (l.take (k + 1))) = addVs (addVs [] (Tm.vss (l.take k))) l[k].vars) := by show _ = _; rw [HD.out, addVs_append, Tm.vars, addVs_dedup]
          generalize l[k] = u at *
          obtain ⟨x0, x1, x2, x3⟩ := hcc
          have hbl := World.block_lt_of_cell? wr _ x0
          have CC : Hid (Calls Try.prog 21 #[.agg #[.int .i64 u.kind, .int .i64 u.num, .string u.name, .slice ao1 u.args.length c1]] wr (RetOwnI u.vars wr)) := CX.out _ wr hta HO2.out hbb
          obtain ⟨W0, hW0⟩ : ∃ W0, W0 = wr := ⟨_, rfl⟩
          have HSW : Hid (w.heap.size + 1 ≤ W0.heap.size) := by rw [hW0]; exact HSZ
          generalize addVs [] (Tm.vss (l.take k)) = O at *
          generalize u.vars = X at *
          have HW0 : Hid (∀ W2, Below wr.heap.size wr W2 → ∀ lv, W2.ownsRow wr.heap.size 3 1 lv X.length (X.map (Value.int .i64)) → IL2 (w.heap.size + 1) wr.heap.size (w.alloc (.cells #[.int .i64 4, .int .i64 t.num, .string t.name, .slice (some ⟨b, off, none⟩) l.length cc] 24)) W2 (.slice oa O.length oc) O lv X) := fun W2 hb lv hl =>
            ⟨HW.out.below HSZ.out hb, hl, fun b h1 h2 => by have := (hl.lt b h1).1; have := (HW.out.own.lt b h2).2; omega, Nat.le_trans HSZ.out hb.size⟩
          clear hta CX
          go_wp2_with (first | (go_at_call 21; ((with_reducible refine CC.out.mono ?_); rintro e W2 ⟨la, lc, rfl, lo, bb⟩; have I2 := Lib.hid (HW0.out W2 bb _ lo); clear bb lo)))
          clear y0 y1 y2 y3 x0 x1 x2 x3 HW HW0 HB HX HO CC
          rw [← hW0] at I2
          clear hW0
          have hxl : X.length ≤ 1000000 := by omega
          go_loopg [3, 6] X.length (fun n o i wr => ∃ (j : Nat), j ≤ X.length ∧ i = .int .i64 j ∧ Hid (n = X.length - j) ∧ Hid (IL2 (w.heap.size + 1) W0.heap.size (w.alloc (.cells #[.int .i64 4, .int .i64 t.num, .string t.name, .slice (some ⟨b, off, none⟩) l.length cc] 24)) wr o (addVs O (X.take j)) (.slice la X.length lc) X))
          case atStart => exact ⟨0, by omega, rfl, rfl, I2⟩
          case round =>
            obtain ⟨j, hj, rfl, HN3, HI⟩ := hrel
            have hZ := addVs_len O (X.take j)
            have hTL := List.length_take_le j X
            have hTM : (X.take j).length ≤ X.length := by rw [List.length_take]; omega
            obtain ⟨oa2, oc2, rfl, _⟩ := (SlAt.of_own HI.out.il.own).shape
            by_cases hlj : j < X.length
            · obtain ⟨b1, o1, rfl, q1, q2, hc1⟩ := (IsAt.own HI.out.lown).getR j hlj
              have j1 : (j : Int) < X.length := by omega
              have HAT := Lib.hid (addVs_take O X j hlj)
              generalize addVs O (X.take j) = O3 at *
              have CH := Lib.hid (has_c _ O3 X[j] wr (IsAt.own HI.out.il.own) (by omega))
              generalize X[j] = x at *
              have HP : Hid (∀ W3, Below wr.heap.size wr W3 → IL2 (w.heap.size + 1) W0.heap.size (w.alloc (.cells #[.int .i64 4, .int .i64 t.num, .string t.name, .slice (some ⟨b, off, none⟩) l.length cc] 24)) W3 (.slice oa2 O3.length oc2) O3 (.slice (some ⟨b1, o1, none⟩) X.length lc) X ∧ W3.cell? ⟨b1, o1 + j, none⟩ = some (.int .i64 x)) := fun W3 h3 => ⟨HI.out.below h3, (h3.cell (p := ⟨b1, o1 + j, none⟩) q2).trans hc1⟩
              have hol : O3.length ≤ 1000000 := by omega
              clear hZ hTL hTM
              by_cases hm : x ∈ O3
              · have HAT2 : Hid (addVs O (X.take (j + 1)) = O3) := HAT.out.trans (addV_mem hm)
                have hd : Hid (decide (x ∈ O3) = true) := decide_eq_true hm
                rw [hd.out] at CH
                clear hm hd
                go_wp2_with (first | (go_at_call 64; ((with_reducible refine CH.out.mono ?_); rintro e W3 ⟨rfl, bb⟩; obtain ⟨i3, c3⟩ := HP.out W3 bb; have I3 := Lib.hid i3; clear bb i3)))
                go_roundg (X.length - (j + 1))
                case measure => have := HN3.out; omega
                case rel => exact ⟨j + 1, by omega, by go_num, rfl, by rw [HAT2.out]; exact I3⟩
              · have HAT2 : Hid (addVs O (X.take (j + 1)) = O3 ++ [x]) := HAT.out.trans (addV_new hm)
                have hd : Hid (decide (x ∈ O3) = false) := decide_eq_false hm
                rw [hd.out] at CH
                clear hm hd
                go_wp2_with (first
                  | (go_at_call 64; ((with_reducible refine CH.out.mono ?_); rintro e W3 ⟨rfl, bb⟩; obtain ⟨i3, c3⟩ := HP.out W3 bb; have I3 := Lib.hid i3; have hb3 := World.block_lt_of_cell? W3 _ c3; clear bb i3))
                  | (at_builtin; refine wpList_appendX rfl (.tmp 47) (.tmp 52) 29 rfl (w.heap.size + 1) 3 i0 (.int .i64 0) 1 8 Try.underlying29 hi hz0 hz1 hz2 rfl (by decide) _ O3.length (O3.map (Value.int .i64)) rfl I3.out.il.own _ _ rfl rfl rfl (one1 rfl) ⟨by omega, by omega⟩ I3.out.sz ?_; intro g cap w6 ho6 hb6 hk6 hl6; have I6 := Lib.hid (I3.out.push ho6 hb6 hk6 hl6); clear ho6 hb6 hk6 hl6))
                go_roundg (X.length - (j + 1))
                case measure => have := HN3.out; omega
                case rel => exact ⟨j + 1, by omega, by go_num, rfl, by rw [HAT2.out]; exact I6⟩
            · obtain rfl : j = X.length := by omega
              go_wp2
              go_roundg (l.length - (k + 1))
              case measure => have := HN2.out; omega
              case rel => exact ⟨k + 1, by omega, by go_num, rfl, Lib.hid (by rw [HE.out]; have h := HI.out.il; simp only [List.take_length] at h ⊢; exact h), Lib.hid HI.out.sz⟩
        · obtain rfl : k = l.length := by omega
          rw [show l.take l.length = l from List.take_length, ← HVV2.out] at HW ⊢
          go_wp2
          go_ret
          exact ⟨_, _, rfl, own_lower HW.out.own (by omega), HB.out⟩
    · have hkb4 : (t.kind == 4) = false := by simpa using hk4
      have hl0 := HK4.out hk4
      subst hl0
      have HX := Lib.hid (below_one w (.cells #[.int .i64 t.kind, .int .i64 t.num, .string t.name, .slice ao 0 cc] 24))
      have HO : Hid (((w.alloc (.cells #[.int .i64 t.kind, .int .i64 t.num, .string t.name, .slice ao 0 cc] 24)).alloc (.cells #[] 3)).ownsRow (w.heap.size + 1) 3 1 (.slice (some ⟨w.heap.size + 1, 0, none⟩) 0 0) 0 []) := by
        have h := own_made1 (w.alloc (.cells #[.int .i64 t.kind, .int .i64 t.num, .string t.name, .slice ao 0 cc] 24)) 3
        simp only [World.size_alloc] at h
        exact h
      have hV0 : V = [] := by have := HVV2.out; simpa [Tm.vss, addVs_nil] using this
      subst hV0
      clear hk4 HK4 HC HT HOK HS HN HVV2
      simp only [List.length_nil]
      go_enter Try.func21, Try.ntmps21
      go_wp2
      go_loopg [3, 4] 0 (fun n o i wr => o = .slice (some ⟨w.heap.size + 1, 0, none⟩) 0 0 ∧ i = .int .i64 0 ∧ Hid (wr = ((w.alloc (.cells #[.int .i64 t.kind, .int .i64 t.num, .string t.name, .slice ao 0 cc] 24)).alloc (.cells #[] 3))))
      case atStart => exact ⟨rfl, rfl, rfl⟩
      case round =>
        obtain ⟨rfl, rfl, HW⟩ := hrel
        have hb : Below (w.heap.size + 1) (w.alloc (.cells #[.int .i64 t.kind, .int .i64 t.num, .string t.name, .slice ao 0 cc] 24)) wr := by rw [HW.out]; exact (Below.refl _ _).alloc (by simp) _
        obtain ⟨y0, y1, y2, y3⟩ := box_one hb
        clear hb
        go_wp2
        go_ret
        exact ⟨_, _, rfl, by rw [HW.out]; exact own_lower HO.out (by omega), by rw [HW.out]; exact HX.out.trans ((Below.refl _ _).alloc (by simp) _)⟩
theorem rvars_all (t : Tm) : RVarsC t := by
  induction t using Tm.ind with
  | h4 s l ih => exact fun va w ht hok hn => rvars_step _ va w ht hok hn ih
  | _ => exact fun va w ht hok hn => rvars_step _ va w ht hok hn (by simp [Tm.args])
end Go.Proofs.Ytmffobadnmkpbaa
namespace Go.Proofs.Ytmffobadnmkpbaa
open Go.RowKit

def DepthC (t : Tm) : Prop := ∀ (va : Value) (w : World), TmAt (fun _ => True) w t va → t.size ≤ 1000000000 →
  Calls Try.prog 17 #[tmV t va] w fun e w' => e = .returned (.int .i64 t.depth) ∧ Below w.heap.size w w'

set_option maxRecDepth 100000 in
set_option maxHeartbeats 1600000 in
theorem depth_step (t : Tm) (va : Value) (w : World) (ht : TmAt (fun _ => True) w t va) (hb : t.size ≤ 1000000000) (hC : ∀ u ∈ t.args, DepthC u) :
    Calls Try.prog 17 #[tmV t va] w fun e w' => e = .returned (.int .i64 t.depth) ∧ Below w.heap.size w w' := by
  have h4 := fun h => ht.nil_of h
  obtain ⟨ao, cc, rfl, hc1, hc2⟩ := ht.shape
  have HT := Lib.hid (TsAt.of_tm ht)
  have HC := Lib.hid hC
  have HA : Hid (∀ W, Calls Try.prog 62 #[.agg #[.int .i64 t.kind, .int .i64 t.num, .string t.name, .slice ao t.args.length cc]] W fun e w' => e = .returned (.slice ao t.args.length cc) ∧ Below W.heap.size W w') := fun W => args_c t _ _ _ h4 W
  have HZ := Lib.hid (below_one w)
  have HS := Lib.hid t.depth_eq
  have HS2 := Lib.hid (show ∀ u ∈ t.args, u.size ≤ 1000000000 from fun u hu => by have := Tm.args_size hu; omega)
  have HB := Lib.hid (show t.depth ≤ 1000000000 from Nat.le_trans t.depth_le hb)
  have hl : t.args.length ≤ 1000000000 := by have h1 := Tm.sizes_len t.args; have h2 := t.size_eq; omega
  unfold tmV
  clear ht hC h4 hb hc1 hc2
  generalize t.depth = z at *
  generalize t.args = l at *
  go_enter Try.func17, Try.ntmps17
  go_wp2_with (first | (go_at_call 62; ((with_reducible refine (HA.out _).mono ?_); rintro e W1 ⟨rfl, bb⟩; have B1 := Lib.hid ((HZ.out _).trans (bb.mono (by simp))); clear bb)))
  go_loopg [3, 9] l.length (fun n s i wr => ∃ (k : Nat) (S : Int), k ≤ l.length ∧ s = .int .i64 S ∧ i = .int .i64 k ∧ 0 ≤ S ∧ S ≤ 1000000000 ∧ Hid (n = l.length - k) ∧ Hid (S = Tm.depths (l.take k)) ∧ Hid (Below w.heap.size w wr))
  case atStart => exact ⟨0, 0, by omega, rfl, rfl, by omega, by omega, rfl, Lib.hid (by simp [Tm.depths]), B1⟩
  case round =>
    obtain ⟨k, S, hk, rfl, rfl, hS0, hS1, HN, HE, HW⟩ := hrel
    by_cases hlt : k < l.length
    · obtain ⟨b, off, a1, rfl, -, hcc, hta⟩ := (HT.out.later HW.out).get k hlt
      obtain ⟨ao1, c1, rfl, _⟩ := hta.shape
      have CX := Lib.hid (HC.out l[k] (List.getElem_mem hlt))
      have HD := Lib.hid (Tm.depths_take l k hlt)
      have hbb : (l[k].depth : Int) ≤ 1000000000 := by have := HS2.out _ (List.getElem_mem hlt); have := l[k].depth_le; omega
      have hbc := HS2.out _ (List.getElem_mem hlt)
      generalize l[k] = u at *
      obtain ⟨x0, x1, x2, x3⟩ := hcc
      have hbl := World.block_lt_of_cell? wr _ x0
      have HU := Lib.hid hta
      have HZ2 := Lib.hid (below_one wr)
      have CC : Hid (∀ W, Below wr.heap.size wr W → Calls Try.prog 17 #[.agg #[.int .i64 u.kind, .int .i64 u.num, .string u.name, .slice ao1 u.args.length c1]] W fun e w' => e = .returned (.int .i64 u.depth) ∧ Below W.heap.size W w') := fun W h => CX.out _ W (HU.out.later h) hbc
      clear hta CX hbc
      generalize u.depth = y at *
      go_wp2_with (first | (go_at_call 17; ((with_reducible refine (CC.out _ (HZ2.out _)).mono ?_); rintro e W2 ⟨rfl, bb⟩; have BB := Lib.hid bb; clear bb)))
      all_goals
        go_roundg (l.length - (k + 1))
        case measure => have := HN.out; omega
        case rel => exact ⟨k + 1, _, by omega, rfl, by go_num, by omega, by omega, rfl, Lib.hid (by have h1 := HE.out; have h3 := HD.out; omega), HW.out.trans ((HZ2.out _).trans (BB.out.mono (by simp)) |>.mono HW.out.size)⟩
    · obtain rfl : k = l.length := by omega
      have HR : Hid (S + 1 = z) := by have h1 := HE.out; have h2 := HS.out; rw [List.take_length] at h1; show _ = _; omega
      go_wp2
      go_ret
      exact ⟨ret_int HR.out, HW.out⟩
theorem depth_all (t : Tm) : DepthC t := by
  induction t using Tm.ind with
  | h4 s l ih => exact fun va w ha hb => depth_step _ va w ha hb ih
  | _ => exact fun va w ha hb => depth_step _ va w ha hb (by simp [Tm.args])
theorem depth_c (t : Tm) (va : Value) (w : World) (ht : TmAt (fun _ => True) w t va) (hb : t.size ≤ 1000000000) :
    Calls Try.prog 17 #[tmV t va] w fun e w' => e = .returned (.int .i64 t.depth) ∧ Below w.heap.size w w' := depth_all t va w ht hb
end Go.Proofs.Ytmffobadnmkpbaa
namespace Go.Proofs.Ytmffobadnmkpbaa
open Go.RowKit

def RDepthC (t : Tm) : Prop := ∀ (va : Value) (w : World), TmAt (fun _ => True) w t va → t.size ≤ 1000000000 →
  Calls Try.prog 18 #[tmV t va] w fun e w' => e = .returned (.int .i64 t.depth) ∧ Below w.heap.size w w'

set_option maxRecDepth 100000 in
set_option maxHeartbeats 1600000 in
theorem rdepth_step (t : Tm) (va : Value) (w : World) (ht : TmAt (fun _ => True) w t va) (hb : t.size ≤ 1000000000) (hC : ∀ u ∈ t.args, RDepthC u) :
    Calls Try.prog 18 #[tmV t va] w fun e w' => e = .returned (.int .i64 t.depth) ∧ Below w.heap.size w w' := by
  obtain ⟨ao, cc, rfl, hc1, hc2⟩ := ht.shape
  have HT := Lib.hid (TsAt.of_tm ht)
  have HC := Lib.hid hC
  have HZ := Lib.hid (below_one w)
  have HS := Lib.hid t.depth_eq
  have HS2 := Lib.hid (show ∀ u ∈ t.args, u.size ≤ 1000000000 from fun u hu => by have := Tm.args_size hu; omega)
  have hl : t.args.length ≤ 1000000000 := by have h1 := Tm.sizes_len t.args; have h2 := t.size_eq; omega
  unfold tmV
  have H4 := Lib.hid (fun h : t.kind ≠ 4 => Tm.args_kind h)
  clear ht hC hb hc1 hc2
  generalize t.depth = z at *
  generalize t.args = l at *
  by_cases hk4 : t.kind = 4
  · rw [hk4]
    clear hk4 H4
    go_enter Try.func18, Try.ntmps18
    go_wp2
    go_loopg [3, 4] l.length (fun n s i wr => ∃ (k : Nat) (S : Int), k ≤ l.length ∧ s = .int .i64 S ∧ i = .int .i64 k ∧ 0 ≤ S ∧ S ≤ 1000000000 ∧ Hid (n = l.length - k) ∧ Hid (S = Tm.depths (l.take k)) ∧ Hid (Below (w.heap.size + 1) (w.alloc (.cells #[.int .i64 4, .int .i64 t.num, .string t.name, .slice ao l.length cc] 24)) wr))
    case atStart => exact ⟨0, 0, by omega, rfl, rfl, by omega, by omega, rfl, Lib.hid (by simp [Tm.depths]), Below.refl _ _⟩
    case round =>
      obtain ⟨k, S, hk, rfl, rfl, hS0, hS1, HN, HE, HW⟩ := hrel
      have HWw := Lib.hid (below_box HW.out)
      obtain ⟨y0, y1, y2, y3⟩ := box_one HW.out
      by_cases hlt : k < l.length
      · obtain ⟨b, off, a1, rfl, -, hcc, hta⟩ := (HT.out.later HWw.out).get k hlt
        obtain ⟨ao1, c1, rfl, _⟩ := hta.shape
        have CX := Lib.hid (HC.out l[k] (List.getElem_mem hlt))
        have HD := Lib.hid (Tm.depths_take l k hlt)
        have hbb : (l[k].depth : Int) ≤ 1000000000 := by have := HS2.out _ (List.getElem_mem hlt); have := l[k].depth_le; omega
        have hbc := HS2.out _ (List.getElem_mem hlt)
        generalize l[k] = u at *
        obtain ⟨x0, x1, x2, x3⟩ := hcc
        have CC : Hid (Calls Try.prog 18 #[.agg #[.int .i64 u.kind, .int .i64 u.num, .string u.name, .slice ao1 u.args.length c1]] wr fun e w' => e = .returned (.int .i64 u.depth) ∧ Below wr.heap.size wr w') := CX.out _ wr hta hbc
        clear hta CX hbc
        generalize u.depth = y at *
        go_wp2_with (first | (go_at_call 18; ((with_reducible refine CC.out.mono ?_); rintro e W2 ⟨rfl, bb⟩; have BB := Lib.hid bb; clear bb)))
        all_goals
          go_roundg (l.length - (k + 1))
          case measure => have := HN.out; omega
          case rel => exact ⟨k + 1, _, by omega, rfl, by go_num, by omega, by omega, rfl, Lib.hid (by have h1 := HE.out; have h3 := HD.out; omega), HW.out.trans (BB.out.mono (le_box HW.out))⟩
      · obtain rfl : k = l.length := by omega
        have HR : Hid (S + 1 = z) := by have h1 := HE.out; have h2 := HS.out; rw [List.take_length] at h1; show _ = _; omega
        go_wp2
        go_ret
        exact ⟨ret_int HR.out, HWw.out⟩
  · have hkb : (t.kind == 4) = false := by simpa using hk4
    have hl0 := H4.out hk4
    subst hl0
    have HR : Hid ((1 : Int) = z) := by have h2 := HS.out; simp only [Tm.depths] at h2; show _ = _; omega
    clear hk4 H4
    go_enter Try.func18, Try.ntmps18
    go_wp2
    go_loopg [3, 4] 0 (fun n s i wr => s = .int .i64 0 ∧ i = .int .i64 0 ∧ Hid (Below (w.heap.size + 1) (w.alloc (.cells #[.int .i64 t.kind, .int .i64 t.num, .string t.name, .slice ao ([] : List Tm).length cc] 24)) wr))
    case atStart => exact ⟨rfl, rfl, Below.refl _ _⟩
    case round =>
      obtain ⟨rfl, rfl, HW⟩ := hrel
      have HWw := Lib.hid (below_box HW.out)
      obtain ⟨y0, y1, y2, y3⟩ := box_one HW.out
      go_wp2
      go_ret
      exact ⟨ret_int HR.out, HWw.out⟩
theorem rdepth_all (t : Tm) : RDepthC t := by
  induction t using Tm.ind with
  | h4 s l ih => exact fun va w ha hb => rdepth_step _ va w ha hb ih
  | _ => exact fun va w ha hb => rdepth_step _ va w ha hb (by simp [Tm.args])
theorem rdepth_c (t : Tm) (va : Value) (w : World) (ht : TmAt (fun _ => True) w t va) (hb : t.size ≤ 1000000000) :
    Calls Try.prog 18 #[tmV t va] w fun e w' => e = .returned (.int .i64 t.depth) ∧ Below w.heap.size w w' := rdepth_all t va w ht hb
end Go.Proofs.Ytmffobadnmkpbaa
namespace Go.Proofs.Ytmffobadnmkpbaa
open Go.RowKit

theorem kk4 {W : World} {b : Nat} {x0 x1 x2 x3 : Value} (h : BoxL W b [x0, x1, x2, x3]) : W.cell? ⟨b, 0, none⟩ = some x0 ∧ W.cell? ⟨b, 1, none⟩ = some x1 ∧ W.cell? ⟨b, 2, none⟩ = some x2 ∧ W.cell? ⟨b, 3, none⟩ = some x3 := ⟨(h.get 0 rfl).1, (h.get 1 rfl).1, (h.get 2 rfl).1, (h.get 3 rfl).1⟩
set_option maxRecDepth 100000 in
set_option maxHeartbeats 3200000 in
theorem termSizes_any (s : ByteArray) (w : World) : Calls Try.prog 3 #[.string s] w fun e w' => e = .returned (.bool true) ∧ Below w.heap.size w w' := by
  have CO := Lib.hid (one7_c s w)
  go_enter Try.func3, Try.ntmps3
  go_upto_region 2 with (first | (go_at_call 14; ((with_reducible refine CO.out.mono ?_); rintro e W1 ⟨t, ao, cap, b, rfl, ht, hf, bb⟩; have HT := Lib.hid ht; have HF := Lib.hid hf; have B1 := Lib.hid bb; clear bb ht hf)))
  cases b with
  | false =>
    have CS : Hid (∀ W, Calls Try.prog 15 #[.agg #[.int .i64 2, .int .i64 0, .string ⟨#[]⟩, .slice none 0 0]] W fun e w' => e = .returned (.int .i64 1) ∧ Below W.heap.size W w') := fun W => size_c (.int 0) (.slice none 0 0) W (.leaf rfl) (by simp [Tm.size])
    have B2 := Lib.hid (B1.out.trans (((Below.refl W1.heap.size W1).alloc (Nat.le_refl _) (.cells #[.int .i64 t.kind, .int .i64 t.num, .string t.name, .slice ao t.args.length cap] 24)).mono B1.out.size))
    go_wp2_with (first | (go_at_call 15; ((with_reducible refine (CS.out _).mono ?_); rintro e W2 ⟨rfl, bb⟩; have B3 := Lib.hid (B2.out.trans (bb.mono B2.out.size)); clear bb)))
    go_ret
    exact ⟨rfl, B3.out⟩
  | true =>
    obtain ⟨hok, hsz⟩ := HF.out rfl
    have hz := t.vars_len
    obtain ⟨W0, hW0⟩ : ∃ W0, W0 = W1.alloc (.cells #[.int .i64 t.kind, .int .i64 t.num, .string t.name, .slice ao t.args.length cap] 24) := ⟨_, rfl⟩
    have b10 : Below W1.heap.size W1 W0 := by rw [hW0]; exact (Below.refl _ _).alloc (Nat.le_refl _) _
    have B2 := Lib.hid (B1.out.trans (b10.mono B1.out.size))
    have hta : TmAt (fun _ => True) W0 t (.slice ao t.args.length cap) := HT.out.any.later b10
    have KK : Hid (∀ W, Below W0.heap.size W0 W → W.cell? ⟨W1.heap.size, 0, none⟩ = some (.int .i64 t.kind) ∧ W.cell? ⟨W1.heap.size, 1, none⟩ = some (.int .i64 t.num) ∧ W.cell? ⟨W1.heap.size, 2, none⟩ = some (.string t.name) ∧ W.cell? ⟨W1.heap.size, 3, none⟩ = some (.slice ao t.args.length cap)) := fun W h => by
      subst hW0
      exact kk4 ((BoxL.mk' W1 #[.int .i64 t.kind, .int .i64 t.num, .string t.name, .slice ao t.args.length cap] 24).below h (by simp))
    have C1 : Hid (∀ W, Below W0.heap.size W0 W → Calls Try.prog 15 #[.agg #[.int .i64 t.kind, .int .i64 t.num, .string t.name, .slice ao t.args.length cap]] W fun e w' => e = .returned (.int .i64 t.size) ∧ Below W0.heap.size W0 w') := fun W h => (size_c t _ W (hta.later h) (by omega)).mono fun e w' ⟨h1, h2⟩ => ⟨h1, h.trans (h2.mono h.size)⟩
    have C2 : Hid (∀ W, Below W0.heap.size W0 W → Calls Try.prog 16 #[.agg #[.int .i64 t.kind, .int .i64 t.num, .string t.name, .slice ao t.args.length cap]] W fun e w' => e = .returned (.int .i64 t.size) ∧ Below W0.heap.size W0 w') := fun W h => (rsize_c t _ W (hta.later h) (by omega)).mono fun e w' ⟨h1, h2⟩ => ⟨h1, h.trans (h2.mono h.size)⟩
    have C3 : Hid (∀ W, Below W0.heap.size W0 W → Calls Try.prog 17 #[.agg #[.int .i64 t.kind, .int .i64 t.num, .string t.name, .slice ao t.args.length cap]] W fun e w' => e = .returned (.int .i64 t.depth) ∧ Below W0.heap.size W0 w') := fun W h => (depth_c t _ W (hta.later h) (by omega)).mono fun e w' ⟨h1, h2⟩ => ⟨h1, h.trans (h2.mono h.size)⟩
    have C4 : Hid (∀ W, Below W0.heap.size W0 W → Calls Try.prog 18 #[.agg #[.int .i64 t.kind, .int .i64 t.num, .string t.name, .slice ao t.args.length cap]] W fun e w' => e = .returned (.int .i64 t.depth) ∧ Below W0.heap.size W0 w') := fun W h => (rdepth_c t _ W (hta.later h) (by omega)).mono fun e w' ⟨h1, h2⟩ => ⟨h1, h.trans (h2.mono h.size)⟩
    have C5 : Hid (∀ W, Below W0.heap.size W0 W → Calls Try.prog 20 #[.agg #[.int .i64 t.kind, .int .i64 t.num, .string t.name, .slice ao t.args.length cap]] W fun e w' => ∃ a c, e = .returned (.slice a t.vars.length c) ∧ IsAt w' (.slice a t.vars.length c) t.vars ∧ Below W0.heap.size W0 w') := fun W h => (vars_c t _ W (hta.later h) hok (by omega)).mono fun e w' ⟨a, c, h1, h2, h3⟩ => ⟨a, c, h1, h2, h.trans (h3.mono h.size)⟩
    have C6 : Hid (∀ W, Below W0.heap.size W0 W → ∀ v, IsAt W v t.vars → Calls Try.prog 21 #[.agg #[.int .i64 t.kind, .int .i64 t.num, .string t.name, .slice ao t.args.length cap]] W fun e w' => ∃ a c, e = .returned (.slice a t.vars.length c) ∧ IsAt w' (.slice a t.vars.length c) t.vars ∧ IsAt w' v t.vars ∧ Below W0.heap.size W0 w') := fun W h v hv => (rvars_all t _ W (hta.later h) hok (by omega)).mono fun e w' ⟨a, c, h1, h2, h3⟩ => ⟨a, c, h1, IsAt.own h2, hv.below h3, h.trans (h3.mono h.size)⟩
    have C7 : Hid (∀ W v u, Below W0.heap.size W0 W → IsAt W v t.vars → IsAt W u t.vars → Calls Try.prog 19 #[v, u] W fun e w' => e = .returned (.bool true) ∧ Below W0.heap.size W0 w') := fun W v u h h1 h2 => (sameInts07_c v u _ _ W h1 h2 (by omega)).mono fun e w' ⟨h3, h4⟩ => ⟨by simpa using h3, h.trans (h4.mono h.size)⟩
    have k0 := KK.out _ (Below.refl _ _)
    rw [← hW0]
    clear hW0 hta b10
    generalize t.size = z at *
    generalize t.depth = y at *
    go_upto_region 4 with (fail)
    go_region_held3 (fun W => W.cell? ⟨W1.heap.size, 0, none⟩ = some (.int .i64 t.kind) ∧ W.cell? ⟨W1.heap.size, 1, none⟩ = some (.int .i64 t.num) ∧ W.cell? ⟨W1.heap.size, 2, none⟩ = some (.string t.name) ∧ W.cell? ⟨W1.heap.size, 3, none⟩ = some (.slice ao t.args.length cap))
      ((first | exact KK.out _ P7.out | exact KK.out _ P6.out | exact KK.out _ P5.out | exact KK.out _ P4.out | exact KK.out _ P3.out | exact KK.out _ P2.out | exact KK.out _ P1.out | (refine KK.out _ ?_; go_grown)))
      (first
        | (go_at_call 15; ((with_reducible refine (C1.out _ ?_).mono ?_); (· go_grown); rintro e W2 ⟨rfl, bb⟩; have P1 := Lib.hid bb; clear bb))
        | (go_at_call 16; ((with_reducible refine (C2.out _ P1.out).mono ?_); rintro e W3 ⟨rfl, bb⟩; have P2 := Lib.hid bb; clear bb))
        | (go_at_call 17; ((with_reducible refine (C3.out _ P2.out).mono ?_); rintro e W4 ⟨rfl, bb⟩; have P3 := Lib.hid bb; clear bb))
        | (go_at_call 18; ((with_reducible refine (C4.out _ P3.out).mono ?_); rintro e W5 ⟨rfl, bb⟩; have P4 := Lib.hid bb; clear bb))
        | (go_at_call 20; ((with_reducible refine (C5.out _ P4.out).mono ?_); rintro e W6 ⟨a1, c1, rfl, i1, bb⟩; have P5 := Lib.hid bb; have I1 := Lib.hid i1; clear bb i1))
        | (go_at_call 21; ((with_reducible refine (C6.out _ P5.out _ I1.out).mono ?_); rintro e W7 ⟨a2, c2, rfl, i2, i1, bb⟩; have P6 := Lib.hid bb; have I2 := Lib.hid i2; have I1' := Lib.hid i1; clear bb i2 i1))
        | (go_at_call 19; ((with_reducible refine (C7.out _ _ _ P6.out I1'.out I2.out).mono ?_); rintro e W8 ⟨rfl, bb⟩; have P7 := Lib.hid bb; clear bb)))
    go_wp2
    go_ret
    exact ⟨rfl, B2.out.trans (P7.out.mono B2.out.size)⟩
end Go.Proofs.Ytmffobadnmkpbaa
