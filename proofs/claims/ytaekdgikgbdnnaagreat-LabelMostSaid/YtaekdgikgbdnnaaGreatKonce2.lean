/-
  The linear constraint's narrow, walked.
  The narrow of unlike variables, walked.
  slices.Min, slices.Max of integers; the product's narrow, walked.
-/
import Derived.Test.YtaekdgikgbdnnaaGreatKonce1
namespace Go.Proofs.YtaekdgikgbdnnaaGreat
open Go.RowKit

theorem OutAt.no_int {W : World} {B bo g : Nat} {out : Ds} (h : OutAt W B bo g out) (o : Nat) (z : Int) : W.cell? ⟨g, o, none⟩ ≠ some (.int .i64 z) := by
  intro hc
  by_cases ho : o < out.length
  · obtain ⟨_, _, _, _, _, _, hs, _, _⟩ := h.own.get' o ho
    rw [hs] at hc; cases hc
  · obtain ⟨us, h1, ⟨_, h2⟩, _⟩ := h.own
    rcases h2 with ⟨he, _⟩ | ⟨g', cap, cur, he, _, hg, _, _, hs, _⟩
    · cases he
    · simp only [Value.slice.injEq, Option.some.injEq, Addr.mk.injEq] at he
      obtain ⟨⟨rfl, _, _⟩, _, rfl⟩ := he
      have : W.cell? ⟨g, o, none⟩ = cur[o]? := by simp [World.cell?, hg]
      rw [this, Array.getElem?_eq_none (by omega)] at hc
      cases hc
theorem RgAt.stay {W W' : World} {B bo g : Nat} {out : Ds} {u : Value} {d : List Rg} (h : RgAt W u d) (ho : OutAt W B bo g out) (hs : Stay W W' g) : RgAt W' u d := by
  obtain ⟨h1, ao, cap, rfl, h2, h3, h5, h4⟩ := h
  refine ⟨h1, ao, cap, rfl, h2, h3, h5, fun hp => ?_⟩
  obtain ⟨b, off, rfl, hlt, hc⟩ := h4 hp
  have hne : b ≠ g := by
    rintro rfl
    have h0 := hc 0 hp
    obtain ⟨a1, _⟩ := cellsR_at d 0 (by omega)
    rw [show 0 = 0 * 2 by rfl] at h0
    rw [a1] at h0
    exact ho.no_int _ _ h0
  exact ⟨b, off, rfl, Nat.lt_of_lt_of_le hlt hs.1, fun j hj => (hs.cell (p := ⟨b, off + j, none⟩) hlt hne).trans (hc j hj)⟩

/-- what a narrow leaves -/
def NarR (r : Option Ks) (B bo g : Nat) (out : Ds) (W : World) (e : Ending) (W' : World) : Prop :=
  Below B W W' ∧ Stay W W' g ∧ ((∃ ks, r = some ks ∧ e = .returned (.bool true) ∧ OutAt W' B bo g (keepsL ks out)) ∨ (r = none ∧ e = .returned (.bool false)))
theorem allN_at {ds : Ds} (h : AllN ds) {n : Nat} (hn : n < ds.length) : Normal ds[n] := by
  have := h n
  rwa [List.getD_eq_getElem?_getD, List.getElem?_eq_getElem hn] at this

set_option maxRecDepth 100000 in
set_option maxHeartbeats 1600000 in
theorem narLin_c (va vb vds : Value) (rel C : Int) (coef vars : List Int) (was out : Ds) (w0 W : World) (B bo g : Nat) (hB : w0.heap.size = B) (hW : Below B w0 W) (h0 : IsAt W va coef) (h1 : IsAt W vb vars) (hvb : 0 < vars.length → ∀ b, vb.ownBlock = some b → b ≠ g) (hd : DsAt w0 vds was)
    (hg : GoodL coef vars was) (hr : rel = 1 ∨ rel = 2 ∨ rel = 3) (hC : -1099511627778 ≤ C ∧ C ≤ 1099511627778) (hnz : ∀ c ∈ coef, c ≠ 0) (hdl : was.length ≤ 4096) (hN : AllN was) (ho : OutAt W B bo g out) (hol : out.length = was.length) :
    Calls Tryz.prog 155 #[.agg #[va, vb, .int .i64 rel, .int .i64 C], vds, .func (.func 92) #[] #[.pointer (some ⟨bo, 0, none⟩)]] W (NarR (linKs rel C (coef.zip vars) vars was) B bo g out W) := by
  subst hB
  obtain ⟨a0, c0, rfl, _⟩ := IsAt.shape h0
  obtain ⟨a1, c1, rfl, hc1, _⟩ := IsAt.shape h1
  obtain ⟨a2, c2, rfl, _⟩ := hd.shape
  have hWl := hW.size
  have HZ : Hid (∀ o, Below W.heap.size W (W.alloc o)) := fun o => (Below.refl _ _).alloc (Nat.le_refl _) o
  have HZB : Hid (∀ o, Below w0.heap.size W (W.alloc o)) := fun o => (Below.refl _ _).alloc hWl o
  have CO0 : Hid (∀ W1, Below W.heap.size W W1 → Calls Tryz.prog 157 #[.agg #[.slice a0 coef.length c0, .slice a1 vars.length c1, .int .i64 rel, .int .i64 C], .slice a2 was.length c2] W1 (RetOn (onceL rel C was (coef.zip vars)) W1)) := fun W1 h =>
    once_n _ _ _ rel C coef vars was W1 (h0.below h) (h1.below h) (hd.below (hW.trans (h.mono hWl))) hg hr hC hnz hdl
  have HO := Lib.hid ho
  have H1 := Lib.hid h1
  have HW := Lib.hid hW
  have HV := Lib.hid hg.vars
  have HVB := Lib.hid hvb
  have hvl : vars.length ≤ 16 := by have := hg.len; have := hg.le16; omega
  unfold linKs
  cases hres : onceL rel C was (coef.zip vars) with
  | none =>
    have CO : Hid (∀ W1, Below W.heap.size W W1 → Calls Tryz.prog 157 #[.agg #[.slice a0 coef.length c0, .slice a1 vars.length c1, .int .i64 rel, .int .i64 C], .slice a2 was.length c2] W1 fun e w' => e = .returned (.tuple #[.slice none 0 0, .bool false]) ∧ Below W1.heap.size W1 w') := fun W1 h =>
      (CO0.out W1 h).mono fun e w' ⟨hb, hx⟩ => by
        rcases hx with ⟨ds, ao, cap, he, _⟩ | ⟨_, he⟩
        · rw [hres] at he; cases he
        · exact ⟨he, hb⟩
    clear h0 h1 hd hg ho hW hres CO0 hnz hN hvb
    go_enter Tryz.func155, Tryz.ntmps155
    go_wp2_with (go_at_call 157; (with_reducible refine (CO.out _ (HZ.out _)).mono ?_); rintro e W2 ⟨rfl, bb⟩; have y1 := bb.cell (p := ⟨W.heap.size, 1, none⟩) (by simp); simp at y1; have B2 := Lib.hid ((HZ.out _).trans (bb.mono (HZ.out _).size)); clear bb)
    go_loopw [22] (fun s wr => ∃ k : Nat, k ≤ vars.length ∧ s = .int .i64 k ∧ Hid (wr = W2)) (fun s _ => vars.length - (intOf s).toNat)
    case atStart => exact ⟨0, by omega, rfl, rfl⟩
    case round =>
      obtain ⟨k, hk, rfl, HE⟩ := hrel
      obtain rfl : wr = W2 := HE.out
      by_cases hlt : k < vars.length
      · obtain ⟨b1, o1, rfl, _, hb1, x1⟩ := H1.out.get k hlt
        have j1 : (k : Int) < vars.length := by omega
        rw [← (B2.out.cell (p := ⟨b1, o1 + k, none⟩) hb1)] at x1
        generalize vars[k] = v at *
        go_wp2
        exact ⟨⟨k + 1, by omega, by go_num, Lib.hid trivial⟩, by simp [intOf]; omega⟩
      · go_wp2
        go_ret
        exact ⟨B2.out.mono hWl, Stay.of_below B2.out, .inr ⟨rfl, rfl⟩⟩
  | some o =>
    obtain ⟨hol2, hNo, _, _, _⟩ := once_spec rel C was hN (coef.zip vars) (fun q hq => by have := hg.vars _ (List.of_mem_zip hq).2; omega) o hres
    have CO : Hid (∀ W1, Below W.heap.size W W1 → Calls Tryz.prog 157 #[.agg #[.slice a0 coef.length c0, .slice a1 vars.length c1, .int .i64 rel, .int .i64 C], .slice a2 was.length c2] W1 fun e w' => ∃ ao cap, e = .returned (.tuple #[.slice ao o.length cap, .bool true]) ∧ DsAt w' (.slice ao o.length cap) o ∧ (∀ b, (Value.slice ao o.length cap).ownBlock = some b → W1.heap.size ≤ b) ∧ Below W1.heap.size W1 w') := fun W1 h =>
      (CO0.out W1 h).mono fun e w' ⟨hb, hx⟩ => by
        rcases hx with ⟨ds, ao, cap, he, he2, hd2, hn2⟩ | ⟨he, _⟩
        · rw [hres] at he; injection he with he; subst he; exact ⟨ao, cap, he2, hd2, hn2, hb⟩
        · rw [hres] at he; cases he
    simp only [Option.map_some]
    have HNo : Hid (∀ n, (hn : n < o.length) → o[n].length ≤ 201) := fun n hn => normal_len (allN_at hNo hn)
    have hol3 : out.length = o.length := by rw [hol, hol2]
    clear h0 h1 hd hg ho hW hres CO0 hnz hN hNo hvb
    go_enter Tryz.func155, Tryz.ntmps155
    go_wp2_with (go_at_call 157; (with_reducible refine (CO.out _ (HZ.out _)).mono ?_); rintro e W2 ⟨ao, cap, rfl, d2, n2, bb⟩; have y1 := bb.cell (p := ⟨W.heap.size, 1, none⟩) (by simp); simp at y1; have B2 := Lib.hid ((HZ.out _).trans (bb.mono (HZ.out _).size)); have D2 := Lib.hid d2; have N2 : Hid (∀ b, (Value.slice ao o.length cap).ownBlock = some b → W.heap.size < b + 1) := (fun b hb => by have := n2 b hb; simp at this; omega); clear bb d2 n2)
    have HG : Hid (g < W.heap.size) := by
      obtain ⟨us, _, ow, _⟩ := HO.out.own
      exact (ow.lt g rfl).2
    have HO2 := Lib.hid (HO.out.below B2.out)
    have E0 : Hid (out.length = was.length) := hol
    have E1 : Hid (out.length = o.length) := hol3
    have E2 : Hid (o.length = was.length) := hol2
    clear hol hol2 hol3
    go_loopw [22] (fun s wr => ∃ k : Nat, k ≤ vars.length ∧ s = .int .i64 k ∧ Hid (OutAt wr w0.heap.size bo g (keepsL ((vars.take k).map fun v => (v, domOf o v)) out)) ∧ Hid (Stay W2 wr g) ∧ Hid (Below w0.heap.size W2 wr)) (fun s _ => vars.length - (intOf s).toNat)
    case atStart => exact ⟨0, by omega, rfl, HO2, Stay.refl _ _, Below.refl _ _⟩
    case round =>
      obtain ⟨k, hk, rfl, HOk, HSk, HBk⟩ := hrel
      have HBB := Lib.hid (HW.out.trans ((B2.out.mono hWl).trans HBk.out))
      by_cases hlt : k < vars.length
      · obtain ⟨b1, o1, rfl, _, hb1, x1⟩ := H1.out.get k hlt
        have j1 : (k : Int) < vars.length := by omega
        rw [← (B2.out.cell (p := ⟨b1, o1 + k, none⟩) hb1), ← HSk.out.cell (p := ⟨b1, o1 + k, none⟩) (Nat.lt_of_lt_of_le hb1 B2.out.size) (HVB.out (by omega) b1 rfl)] at x1
        obtain ⟨n, e1, hn, _⟩ := domOf_in was vars[k] (HV.out _ (List.getElem_mem hlt))
        have hno : n < o.length := by have := E2.out; omega
        obtain ⟨b2, o2, ao', cap', rfl, q2, l2, _, x2, x3⟩ := D2.out.get n hno
        have hne : b2 ≠ g := by have := N2.out b2 rfl; have := HG.out; omega
        rw [← HSk.out.cell (p := ⟨b2, o2 + n, none⟩) l2 hne] at x2
        have HR := Lib.hid (x3.stay HO2.out HSk.out)
        have hl4 := HNo.out n hno
        have j3 : (n : Int) < o.length := by omega
        have hst : (vars.take (k + 1)).map (fun v => (v, domOf o v)) = (vars.take k).map (fun v => (v, domOf o v)) ++ [((n : Int), o[n])] := by
          rw [List.take_succ_eq_append_getElem hlt, List.map_append, e1]
          simp [domOf_nat hno]
        have HST := Lib.hid hst
        rw [e1] at x1
        have hkl : (keepsL ((vars.take k).map fun v => (v, domOf o v)) out).length = o.length := by rw [keepsL_len]; exact E1.out
        have CK : Hid (Calls Tryz.prog 92 #[.int .i64 n, .slice ao' o[n].length cap', .pointer (some ⟨bo, 0, none⟩)] wr fun e W' => (∃ u, e = .returned u) ∧ OutAt W' w0.heap.size bo g (keepsL ((vars.take (k + 1)).map fun v => (v, domOf o v)) out) ∧ Below w0.heap.size wr W' ∧ Stay wr W' g) := by
          rw [HST.out, keepsL_snoc]
          exact keep_c w0.heap.size bo g n _ o[n] _ wr HOk.out (by rw [hkl]; exact hno) HR.out (by omega) HBB.out.size (by rw [hkl]; have := E2.out; omega)
        clear hst x3 hkl e1
        generalize o[n].length = on at *
        go_wp2_with (go_at_call 92; (with_reducible refine CK.out.mono ?_); rintro e W3 ⟨⟨u, rfl⟩, o3, b3, s3⟩; have O3 := Lib.hid o3; have B3 := Lib.hid (HBk.out.trans b3); have S3 := Lib.hid (HSk.out.trans s3); clear o3 b3 s3)
        exact ⟨⟨k + 1, by omega, by go_num, O3, S3, B3⟩, by simp [intOf]; omega⟩
      · obtain rfl : k = vars.length := by omega
        have HF : Hid (OutAt wr w0.heap.size bo g (keepsL (vars.map fun v => (v, domOf o v)) out)) := by have := HOk.out; rwa [List.take_length] at this
        go_wp2
        go_ret
        exact ⟨(B2.out.mono hWl).trans HBk.out, (Stay.of_below B2.out).trans HSk.out, .inl ⟨_, rfl, rfl, HF.out⟩⟩
end Go.Proofs.YtaekdgikgbdnnaaGreat
namespace Go.Proofs.YtaekdgikgbdnnaaGreat
open Go.RowKit

theorem getD_atO {l : List Int} {i : Nat} (h : i < l.length) : l.getD i 0 = l[i] := by simp [List.getD_eq_getElem?_getD, List.getElem?_eq_getElem h]

set_option maxRecDepth 100000 in
set_option maxHeartbeats 1600000 in
theorem narDiff_c (va vds : Value) (l : List Int) (was out : Ds) (w0 W : World) (B bo g : Nat) (hB : w0.heap.size = B) (hW : Below B w0 W) (h0 : IsAt w0 va l) (hd : DsAt w0 vds was)
    (hv : ∀ v ∈ l, 0 ≤ v ∧ v < was.length) (hll : l.length ≤ 4096) (hdl : was.length ≤ 4096) (hdm : ∀ d ∈ was, d.length ≤ 4096) (ho : OutAt W B bo g out) (hol : out.length = was.length) :
    Calls Tryz.prog 179 #[.agg #[va], vds, .func (.func 92) #[] #[.pointer (some ⟨bo, 0, none⟩)]] W (NarR (some (diffTo l was l.length)) B bo g out W) := by
  subst hB
  obtain ⟨a0, c0, rfl, hc0, _⟩ := IsAt.shape h0
  obtain ⟨a2, c2, rfl, _⟩ := hd.shape
  have hWl := hW.size
  have HZ : Hid (∀ o, Below W.heap.size W (W.alloc o)) := fun o => (Below.refl _ _).alloc (Nat.le_refl _) o
  have HZB : Hid (∀ o, Below w0.heap.size W (W.alloc o)) := fun o => (Below.refl _ _).alloc hWl o
  have HO := Lib.hid ho
  have H1 := Lib.hid h0
  have HD := Lib.hid hd
  have HW := Lib.hid hW
  have HV := Lib.hid hv
  have HM := Lib.hid hdm
  have HG : Hid (g < W.heap.size) := by
    obtain ⟨us, _, ow, _⟩ := HO.out.own
    exact (ow.lt g rfl).2
  have HX := Lib.hid (Box1.mk' W (.slice a0 l.length c0) 128)
  have E0 := Lib.hid hol
  have HO1 := Lib.hid (HO.out.below (HZ.out (.cells #[.slice a0 l.length c0] 128)))
  clear h0 hd hv ho hW hdm hol
  have hb0 := HX.out.c0
  go_enter Tryz.func179, Tryz.ntmps179
  go_wp2
  go_loopw [14] (fun s wr => ∃ i : Nat, i ≤ l.length ∧ s = .int .i64 i ∧ Hid (OutAt wr w0.heap.size bo g (keepsL (diffTo l was i) out)) ∧ Hid (Stay (W.alloc (.cells #[.slice a0 l.length c0] 128)) wr g) ∧ Hid (Below w0.heap.size (W.alloc (.cells #[.slice a0 l.length c0] 128)) wr)) (fun s _ => l.length - (intOf s).toNat)
  case atStart => exact ⟨0, by omega, rfl, HO1, Stay.refl _ _, Below.refl _ _⟩
  case round =>
    clear hb0 HO1
    obtain ⟨i, hi, rfl, HOk, HSk, HBk⟩ := hrel
    have HBB := Lib.hid (HW.out.trans ((HZB.out _).trans HBk.out))
    have hneb : W.heap.size ≠ g := by have := HG.out; omega
    have hbx := (HX.out.stay HSk.out hneb).c0
    by_cases hlt : i < l.length
    · obtain ⟨b1, o1, rfl, _, hb1, x1⟩ := H1.out.get i hlt
      have j1 : (i : Int) < l.length := by omega
      rw [← (HBB.out.cell (p := ⟨b1, o1 + i, none⟩) hb1)] at x1
      obtain ⟨n, e1, hn, e2⟩ := domOf_in was l[i] (HV.out _ (List.getElem_mem hlt))
      obtain ⟨b2, o2, ao', cap', rfl, q2, l2, _, x2, x3⟩ := HD.out.get n hn
      have X20 := Lib.hid x2
      rw [← HBB.out.cell (p := ⟨b2, o2 + n, none⟩) l2] at x2
      have hl4 := HM.out _ (List.getElem_mem hn)
      have j3 : (n : Int) < was.length := by omega
      have CS := Lib.hid (size_c _ was[n] wr (x3.below HBB.out) hl4)
      have e1' : l.getD i 0 = (n : Int) := by rw [getD_atO hlt, e1]
      have e2' : domOf was (l.getD i 0) = was[n] := by rw [getD_atO hlt, e2]
      rw [e1] at x1
      have S0 := Lib.hid (diffTo_snoc l was i)
      by_cases hs : sizeL (norm was[n]) = 1
      · have SA : Hid (∀ m, diffAt l was i (m + 1) = diffAt l was i m ++ (if m = i then [] else [(l.getD m 0, complL was[n])])) := fun m => by
          have := diffAt_snoc l was i m (by rw [e2']; exact hs)
          rw [e2'] at this; exact this
        have S1 : Hid (diffAt l was i 0 = []) := by show _ = _; unfold diffAt; split <;> rfl
        have CC : Hid (∀ W1, Below w0.heap.size w0 W1 → Calls Tryz.prog 93 #[.slice ao' was[n].length cap'] W1 (RetR (complL was[n]) W1)) := fun W1 h => compl_c _ was[n] W1 (x3.below h) hl4
        have hcl : (complL was[n]).length ≤ 201 := canon_len _
        rw [hs] at CS
        have HCL := Lib.hid hcl
        clear e1 e2 e1' e2' x3 hs hcl
        generalize complL was[n] = cm at *
        generalize was[n].length = wl at *
        obtain ⟨wo, hwo⟩ : ∃ wo : World, wo = wr := ⟨_, rfl⟩
        subst hwo
        go_wp2_with (go_at_call 68; (with_reducible refine CS.out.mono ?_); rintro e W1 ⟨rfl, b1'⟩; have HO1 := Lib.hid (HOk.out.below b1'); have HS1 := Lib.hid (HSk.out.trans (Stay.of_below b1')); have HB1 := Lib.hid (HBk.out.trans (b1'.mono HBB.out.size)); have hbx1 := (HX.out.stay HS1.out hneb).c0; have x21 := (b1'.cell (p := ⟨b2, o2 + n, none⟩) (Nat.lt_of_lt_of_le l2 HBB.out.size)).trans x2; clear b1')
        go_loopw [28] (fun s wi => ∃ m : Nat, m ≤ l.length ∧ s = .int .i64 m ∧ Hid (OutAt wi w0.heap.size bo g (keepsL (diffTo l was i ++ diffAt l was i m) out)) ∧ Hid (Stay (W.alloc (.cells #[.slice (some ⟨b1, o1, none⟩) l.length c0] 128)) wi g) ∧ Hid (Below w0.heap.size (W.alloc (.cells #[.slice (some ⟨b1, o1, none⟩) l.length c0] 128)) wi)) (fun s _ => l.length - (intOf s).toNat)
        case atStart => exact ⟨0, by omega, rfl, by rw [S1.out, List.append_nil]; exact HO1, HS1, HB1⟩
        case round =>
          clear HO1 HS1 HB1 hbx hbx1 x1 x2 x21 HBB HOk HSk HBk CS
          obtain ⟨m, hm, rfl, HOk, HSk, HBk⟩ := hrel
          have HBB := Lib.hid (HW.out.trans ((HZB.out _).trans HBk.out))
          have hbx := (HX.out.stay HSk.out hneb).c0
          by_cases hltm : m < l.length
          · obtain ⟨b5, o5, he5, _, hb5, x5⟩ := H1.out.get m hltm
            simp only [Option.some.injEq, Addr.mk.injEq, and_true] at he5
            obtain ⟨rfl, rfl⟩ := he5
            have j5 : (m : Int) < l.length := by omega
            rw [← (HBB.out.cell (p := ⟨b1, o1 + m, none⟩) hb5)] at x5
            obtain ⟨q, e5, hq, _⟩ := domOf_in was l[m] (HV.out _ (List.getElem_mem hltm))
            have SAm := Lib.hid (SA.out m)
            rw [getD_atO hltm, e5] at SAm
            rw [e5] at x5
            have x6 := (HBB.out.cell (p := ⟨b2, o2 + n, none⟩) l2).trans X20.out
            by_cases hmi : m = i
            · subst hmi
              rw [if_pos rfl, List.append_nil] at SAm
              have hne : ((m : Int) != m) = false := by simp
              go_wp2
              exact ⟨⟨m + 1, by omega, by go_num, by rw [SAm.out]; exact HOk, HSk, HBk⟩, by simp [intOf]; omega⟩
            · rw [if_neg hmi] at SAm
              have hne : ((m : Int) != i) = true := by simpa using (show ¬ (m : Int) = i by omega)
              have hmi' : ¬ (m : Int) = i := by omega
              have hks := keepsL_snoc (diffTo l was i ++ diffAt l was i m) ((q : Int), cm) out
              rw [List.append_assoc, ← SAm.out] at hks
              have HKS := Lib.hid hks
              have hkl : (keepsL (diffTo l was i ++ diffAt l was i m) out).length = was.length := by rw [keepsL_len]; exact E0.out
              have HKL := Lib.hid hkl
              clear hks hkl hmi
              go_wp2_with (first
                | (go_at_call 93; (with_reducible refine (CC.out _ HBB.out).mono ?_); rintro e W4 ⟨a4, c4, rfl, r4, b4⟩; have CK : Hid (Calls Tryz.prog 92 #[.int .i64 q, .slice a4 cm.length c4, .pointer (some ⟨bo, 0, none⟩)] W4 fun e W' => (∃ u, e = .returned u) ∧ OutAt W' w0.heap.size bo g (keepsL (diffTo l was i ++ diffAt l was i (m + 1)) out) ∧ Below w0.heap.size W4 W' ∧ Stay W4 W' g) := (by
                    rw [HKS.out]
                    exact keep_c w0.heap.size bo g q _ cm _ W4 (HOk.out.below b4) (by rw [HKL.out]; exact hq) r4 (by have := HCL.out; omega) (Nat.le_trans HBB.out.size b4.size) (by rw [HKL.out]; exact hdl)); have HS4 := Lib.hid (HSk.out.trans (Stay.of_below b4)); have HB4 := Lib.hid (HBk.out.trans (b4.mono HBB.out.size)); clear b4 r4)
                | (go_at_call 92; (with_reducible refine CK.out.mono ?_); rintro e W5 ⟨⟨u, rfl⟩, o5, b5, s5⟩; have O5 := Lib.hid o5; have B5 := Lib.hid (HB4.out.trans b5); have S5 := Lib.hid (HS4.out.trans s5); clear o5 b5 s5))
              exact ⟨⟨m + 1, by omega, by go_num, O5, S5, B5⟩, by simp [intOf]; omega⟩
          · obtain rfl : m = l.length := by omega
            rw [← S0.out] at HOk
            go_wp2
            exact ⟨⟨i + 1, by omega, by go_num, HOk, HSk, HBk⟩, by simp [intOf]; omega⟩
      · have hd0 : diffAt l was i l.length = [] := by
          unfold diffAt
          rw [if_neg (by rw [e2']; exact hs)]
        rw [hd0, List.append_nil] at S0
        have hsz : (sizeL (norm was[n]) == 1) = false := beqf hs
        clear hs hd0 e1 e2 e1' e2' x3
        generalize sizeL (norm was[n]) = sz at *
        generalize was[n].length = wl at *
        go_wp2_with (go_at_call 68; (with_reducible refine CS.out.mono ?_); rintro e W1 ⟨rfl, b1'⟩; have HO1 := Lib.hid (HOk.out.below b1'); have HS1 := Lib.hid (HSk.out.trans (Stay.of_below b1')); have HB1 := Lib.hid (HBk.out.trans (b1'.mono HBB.out.size)); clear b1')
        exact ⟨⟨i + 1, by omega, by go_num, by rw [S0.out]; exact HO1, HS1, HB1⟩, by simp [intOf]; omega⟩
    · obtain rfl : i = l.length := by omega
      go_wp2
      go_ret
      exact ⟨(HZB.out _).trans HBk.out, (Stay.of_below (HZ.out _)).trans HSk.out, .inl ⟨_, rfl, rfl, HOk.out⟩⟩
end Go.Proofs.YtaekdgikgbdnnaaGreat
namespace Go.Proofs.YtaekdgikgbdnnaaGreat
open Go.RowKit

theorem Stay.alloc {W W' : World} {g : Nat} (h : Stay W W' g) (o : Obj) : Stay W (W'.alloc o) g :=
  h.trans (Stay.of_below ((Below.refl _ _).alloc (Nat.le_refl _) o))
theorem below_of {B : Nat} {w0 W W' : World} (h1 : Below B w0 W) (h2 : Below B w0 W') (hs : W.heap.size ≤ W'.heap.size) : Below B W W' :=
  ⟨h2.os.trans h1.os.symm, h2.tape.trans h1.tape.symm, h2.output.trans h1.output.symm, hs, fun k hk => (h2.block k hk).trans (h1.block k hk).symm⟩
theorem Stay.drew {W W' : World} {g : Nat} (h : Stay W W' g) : Stay W W'.drew g := h

set_option maxRecDepth 100000 in
theorem minI_c (v : Value) (z : Int) (zs : List Int) (w : World) (h : IsAt w v (z :: zs)) (hl : zs.length ≤ 4096) :
    Calls Tryz.prog 185 #[v] w fun e w' => e = .returned (.int .i64 (zs.foldl min z)) ∧ w = w' := by
  obtain ⟨ao, cap, rfl, _⟩ := IsAt.shape h
  have H := Lib.hid h
  obtain ⟨b, off, rfl, hc, hb, x0⟩ := h.get 0 (by simp)
  simp only [List.getElem_cons_zero, Nat.add_zero] at x0
  have hlen : (z :: zs).length = zs.length + 1 := by simp
  clear h
  rw [hlen] at *
  go_enter Tryz.func185, Tryz.ntmps185
  go_wp2
  go_loop [3, 4] (fun m i => ∃ k : Nat, k ≤ zs.length ∧ i = .int .i64 ((k : Int) + 1) ∧ m = .int .i64 ((zs.take k).foldl min z)) (fun _ i => zs.length + 1 - (intOf i).toNat)
  case atStart => exact ⟨0, by omega, rfl, rfl⟩
  case round =>
    obtain ⟨k, hk, rfl, rfl⟩ := hrel
    by_cases hlt : k < zs.length
    · obtain ⟨b1, o1, he, _, _, x1⟩ := IsAt.get (n := (z :: zs).length) H.out (k + 1) (by simp; omega)
      simp only [Option.some.injEq, Addr.mk.injEq, and_true] at he
      obtain ⟨rfl, rfl⟩ := he
      simp only [List.getElem_cons_succ] at x1
      have S : Hid ((zs.take (k + 1)).foldl min z = min ((zs.take k).foldl min z) zs[k]) := by show _ = _; rw [List.take_succ_eq_append_getElem hlt, List.foldl_append]; rfl
      have j1 : (k : Int) + 1 < zs.length + 1 := by omega
      have e1 : ((k : Int) + 1).toNat = k + 1 := by omega
      generalize zs[k] = y at *
      generalize (zs.take k).foldl min z = m at *
      go_wp2
      go_round
      case rel => exact ⟨k + 1, by omega, by go_num, by rw [S.out]⟩
      case measure => simp [intOf]; omega
    · obtain rfl : k = zs.length := by omega
      rw [List.take_length]
      obtain ⟨m, hm⟩ : ∃ m, m = zs.foldl min z := ⟨_, rfl⟩
      rw [← hm]
      have HM := Lib.hid hm
      clear hm
      go_wp2
      go_ret
      exact ⟨ret_int HM.out, rfl⟩
set_option maxRecDepth 100000 in
theorem maxI_c (v : Value) (z : Int) (zs : List Int) (w : World) (h : IsAt w v (z :: zs)) (hl : zs.length ≤ 4096) :
    Calls Tryz.prog 186 #[v] w fun e w' => e = .returned (.int .i64 (zs.foldl max z)) ∧ w = w' := by
  obtain ⟨ao, cap, rfl, _⟩ := IsAt.shape h
  have H := Lib.hid h
  obtain ⟨b, off, rfl, hc, hb, x0⟩ := h.get 0 (by simp)
  simp only [List.getElem_cons_zero, Nat.add_zero] at x0
  have hlen : (z :: zs).length = zs.length + 1 := by simp
  clear h
  rw [hlen] at *
  go_enter Tryz.func186, Tryz.ntmps186
  go_wp2
  go_loop [3, 4] (fun m i => ∃ k : Nat, k ≤ zs.length ∧ i = .int .i64 ((k : Int) + 1) ∧ m = .int .i64 ((zs.take k).foldl max z)) (fun _ i => zs.length + 1 - (intOf i).toNat)
  case atStart => exact ⟨0, by omega, rfl, rfl⟩
  case round =>
    obtain ⟨k, hk, rfl, rfl⟩ := hrel
    by_cases hlt : k < zs.length
    · obtain ⟨b1, o1, he, _, _, x1⟩ := IsAt.get (n := (z :: zs).length) H.out (k + 1) (by simp; omega)
      simp only [Option.some.injEq, Addr.mk.injEq, and_true] at he
      obtain ⟨rfl, rfl⟩ := he
      simp only [List.getElem_cons_succ] at x1
      have S : Hid ((zs.take (k + 1)).foldl max z = max ((zs.take k).foldl max z) zs[k]) := by show _ = _; rw [List.take_succ_eq_append_getElem hlt, List.foldl_append]; rfl
      have j1 : (k : Int) + 1 < zs.length + 1 := by omega
      have e1 : ((k : Int) + 1).toNat = k + 1 := by omega
      generalize zs[k] = y at *
      generalize (zs.take k).foldl max z = m at *
      go_wp2
      go_round
      case rel => exact ⟨k + 1, by omega, by go_num, by rw [S.out]⟩
      case measure => simp [intOf]; omega
    · obtain rfl : k = zs.length := by omega
      rw [List.take_length]
      obtain ⟨m, hm⟩ : ∃ m, m = zs.foldl max z := ⟨_, rfl⟩
      rw [← hm]
      have HM := Lib.hid hm
      clear hm
      go_wp2
      go_ret
      exact ⟨ret_int HM.out, rfl⟩

theorem rgAt_new (w : World) (a b : Int) (T : TypeId) : RgAt (w.alloc (.cells #[.int .i64 a, .int .i64 b] T)) (.slice (some ⟨w.heap.size, 0, none⟩) 1 1) [(a, b)] := rgAt_lit2 w (a, b) T
theorem mul_bnd2 (x y : Int) (hx : -200 ≤ x ∧ x ≤ 200) (hy : -200 ≤ y ∧ y ≤ 200) : -40000 ≤ x * y ∧ x * y ≤ 40000 := by have := mul_bnd y x 200 hy hx; omega
theorem IsAt.stay {W W' : World} {b o n c g : Nat} {zs : List Int} (h : IsAt W (.slice (some ⟨b, o, none⟩) n c) zs) (hs : Stay W W' g) (hne : b ≠ g) : IsAt W' (.slice (some ⟨b, o, none⟩) n c) zs := by
  obtain ⟨h1, ao, cap, he, h2, h3, h5, h4⟩ := h
  refine ⟨h1, ao, cap, he, h2, h3, h5, fun hp => ?_⟩
  obtain ⟨b', off, rfl, hlt, hc⟩ := h4 hp
  simp only [Value.slice.injEq, Option.some.injEq, Addr.mk.injEq] at he
  obtain ⟨⟨rfl, rfl, _⟩, _⟩ := he
  exact ⟨_, _, rfl, Nat.lt_of_lt_of_le hlt hs.1, fun j hj => (hs.cell (p := ⟨b, o + j, none⟩) hlt hne).trans (hc j hj)⟩

set_option maxRecDepth 100000 in
set_option maxHeartbeats 3200000 in
theorem narProd_c (vds : Value) (nx ny nz : Nat) (was out : Ds) (w0 W : World) (B bo g : Nat) (hB : w0.heap.size = B) (hW : Below B w0 W) (hd : DsAt w0 vds was) (hx : nx < was.length) (hy : ny < was.length) (hz : nz < was.length)
    (hdl : was.length ≤ 4096) (hN : AllN was) (ho : OutAt W B bo g out) (hol : out.length = was.length) :
    Calls Tryz.prog 182 #[.agg #[.int .i64 nx, .int .i64 ny, .int .i64 nz], vds, .func (.func 92) #[] #[.pointer (some ⟨bo, 0, none⟩)]] W (NarR (some (prodKs nx ny nz was)) B bo g out W) := by
  subst hB
  obtain ⟨a2, c2, rfl, _⟩ := hd.shape
  have hWl := hW.size
  have HZ : Hid (∀ o, Below W.heap.size W (W.alloc o)) := fun o => (Below.refl _ _).alloc (Nat.le_refl _) o
  have HO := Lib.hid ho
  have HW := Lib.hid hW
  have HG : Hid (g < W.heap.size) := by
    obtain ⟨us, _, ow, _⟩ := HO.out.own
    exact (ow.lt g rfl).2
  have hneb : W.heap.size ≠ g := by have := HG.out; omega
  have HKS : Hid (prodKs nx ny nz was = [((nx : Int), factorsL was[nx] (loD was[ny]) (hiD was[ny]) (loD was[nz]) (hiD was[nz])), ((ny : Int), factorsL was[ny] (loD was[nx]) (hiD was[nx]) (loD was[nz]) (hiD was[nz])), ((nz : Int), prodR was[nx] was[ny])]) := by
    show _ = _
    unfold prodKs
    rw [domOf_nat hx, domOf_nat hy, domOf_nat hz]
  obtain ⟨bx, ox, ax, cx, he, qx, lx, _, x2, x3⟩ := hd.get nx hx
  obtain ⟨by', oy, ay, cy, he2, qy, ly, _, y2, y3⟩ := hd.get ny hy
  obtain ⟨bz, oz, az, cz, he3, qz, lz, _, z2, z3⟩ := hd.get nz hz
  rw [he] at he2 he3
  simp only [Option.some.injEq, Addr.mk.injEq, and_true] at he2 he3
  obtain ⟨rfl, rfl⟩ := he2
  obtain ⟨rfl, rfl⟩ := he3
  subst he
  have nX := allN_at hN hx
  have nY := allN_at hN hy
  have nZ := allN_at hN hz
  have bX := ends_bnd was[nx]
  have bY := ends_bnd was[ny]
  have bZ := ends_bnd was[nz]
  have tX := normal_len nX
  have tY := normal_len nY
  have tZ := normal_len nZ
  have CX : Hid (∀ W1, Below w0.heap.size w0 W1 → Calls Tryz.prog 45 #[.slice ax was[nx].length cx] W1 fun e w' => e = .returned (.tuple #[.int .i64 (loD was[nx]), .int .i64 (hiD was[nx]), .bool (endsL (norm was[nx])).2.2]) ∧ Below W1.heap.size W1 w') := fun W1 h => ends_c _ _ W1 (x3.below h) (by omega)
  have CY : Hid (∀ W1, Below w0.heap.size w0 W1 → Calls Tryz.prog 45 #[.slice ay was[ny].length cy] W1 fun e w' => e = .returned (.tuple #[.int .i64 (loD was[ny]), .int .i64 (hiD was[ny]), .bool (endsL (norm was[ny])).2.2]) ∧ Below W1.heap.size W1 w') := fun W1 h => ends_c _ _ W1 (y3.below h) (by omega)
  have CZ : Hid (∀ W1, Below w0.heap.size w0 W1 → Calls Tryz.prog 45 #[.slice az was[nz].length cz] W1 fun e w' => e = .returned (.tuple #[.int .i64 (loD was[nz]), .int .i64 (hiD was[nz]), .bool (endsL (norm was[nz])).2.2]) ∧ Below W1.heap.size W1 w') := fun W1 h => ends_c _ _ W1 (z3.below h) (by omega)
  have CF1 : Hid (∀ W1, Below w0.heap.size w0 W1 → Calls Tryz.prog 184 #[.slice ax was[nx].length cx, .int .i64 (loD was[ny]), .int .i64 (hiD was[ny]), .int .i64 (loD was[nz]), .int .i64 (hiD was[nz])] W1 (RetR (factorsL was[nx] (loD was[ny]) (hiD was[ny]) (loD was[nz]) (hiD was[nz])) W1)) := fun W1 h =>
    factors_c _ was[nx] _ _ _ _ W1 (x3.below h) nX ⟨bY.1, bY.2.1⟩ bY.2.2 ⟨bZ.1, bZ.2.1⟩ bZ.2.2
  have CF2 : Hid (∀ W1, Below w0.heap.size w0 W1 → Calls Tryz.prog 184 #[.slice ay was[ny].length cy, .int .i64 (loD was[nx]), .int .i64 (hiD was[nx]), .int .i64 (loD was[nz]), .int .i64 (hiD was[nz])] W1 (RetR (factorsL was[ny] (loD was[nx]) (hiD was[nx]) (loD was[nz]) (hiD was[nz])) W1)) := fun W1 h =>
    factors_c _ was[ny] _ _ _ _ W1 (y3.below h) nY ⟨bX.1, bX.2.1⟩ bX.2.2 ⟨bZ.1, bZ.2.1⟩ bZ.2.2
  have HC : Hid (∀ W1, Below w0.heap.size w0 W1 → W1.cell? ⟨bx, ox + nx, none⟩ = some (.slice ax was[nx].length cx) ∧ W1.cell? ⟨bx, ox + ny, none⟩ = some (.slice ay was[ny].length cy) ∧ W1.cell? ⟨bx, ox + nz, none⟩ = some (.slice az was[nz].length cz)) := fun W1 h =>
    ⟨(h.cell (p := ⟨bx, ox + nx, none⟩) lx).trans x2, (h.cell (p := ⟨bx, ox + ny, none⟩) lx).trans y2, (h.cell (p := ⟨bx, ox + nz, none⟩) lx).trans z2⟩
  have HX := Lib.hid (BoxL.mk' W #[.int .i64 nx, .int .i64 ny, .int .i64 nz] 141)
  have hf1 : (factorsL was[nx] (loD was[ny]) (hiD was[ny]) (loD was[nz]) (hiD was[nz])).length ≤ 201 := canon_len _
  have hf2 : (factorsL was[ny] (loD was[nx]) (hiD was[nx]) (loD was[nz]) (hiD was[nz])).length ≤ 201 := canon_len _
  have HPR : Hid (prodR was[nx] was[ny] = [(min4 (loD was[nx] * loD was[ny]) (loD was[nx] * hiD was[ny]) (hiD was[nx] * loD was[ny]) (hiD was[nx] * hiD was[ny]), max4 (loD was[nx] * loD was[ny]) (loD was[nx] * hiD was[ny]) (hiD was[nx] * loD was[ny]) (hiD was[nx] * hiD was[ny]))]) := rfl
  rw [HKS.out]
  change (-200 ≤ loD was[nx] ∧ loD was[nx] ≤ 200 ∧ -200 ≤ hiD was[nx] ∧ hiD was[nx] ≤ 200) at bX
  change (-200 ≤ loD was[ny] ∧ loD was[ny] ≤ 200 ∧ -200 ≤ hiD was[ny] ∧ hiD was[ny] ≤ 200) at bY
  change (-200 ≤ loD was[nz] ∧ loD was[nz] ≤ 200 ∧ -200 ≤ hiD was[nz] ∧ hiD was[nz] ≤ 200) at bZ
  rw [HPR.out]
  generalize factorsL was[nx] (loD was[ny]) (hiD was[ny]) (loD was[nz]) (hiD was[nz]) = F1 at *
  generalize factorsL was[ny] (loD was[nx]) (hiD was[nx]) (loD was[nz]) (hiD was[nz]) = F2 at *
  clear HKS HPR x2 x3 y2 y3 z2 z3 nX nY nZ tX tY tZ ho hW hd hN
  generalize loD was[nx] = x1 at *
  generalize hiD was[nx] = x2 at *
  generalize loD was[ny] = y1 at *
  generalize hiD was[ny] = y2 at *
  generalize loD was[nz] = z1 at *
  generalize hiD was[nz] = z2 at *
  generalize (endsL (norm was[nx])).2.2 = ex at *
  generalize (endsL (norm was[ny])).2.2 = ey at *
  generalize (endsL (norm was[nz])).2.2 = ez at *
  generalize was[nx].length = xl at *
  generalize was[ny].length = yl at *
  generalize was[nz].length = zl at *
  have m1 := mul_bnd2 x1 y1 (by omega) (by omega)
  have m2 := mul_bnd2 x1 y2 (by omega) (by omega)
  have m3 := mul_bnd2 x2 y1 (by omega) (by omega)
  have m4 := mul_bnd2 x2 y2 (by omega) (by omega)
  have E0 := Lib.hid hol
  clear hol
  have BZ : Hid (Below w0.heap.size w0 (W.alloc (.cells #[.int .i64 nx, .int .i64 ny, .int .i64 nz] 141))) := HW.out.trans ((HZ.out _).mono hWl)
  have jx : (nx : Int) < was.length := by omega
  have jy : (ny : Int) < was.length := by omega
  have jz : (nz : Int) < was.length := by omega
  have HS0 := Lib.hid (Stay.refl (W.alloc (.cells #[.int .i64 nx, .int .i64 ny, .int .i64 nz] 141)) g)
  have HO0 := Lib.hid (HO.out.below (HZ.out (.cells #[.int .i64 nx, .int .i64 ny, .int .i64 nz] 141)))
  -- the box, and the sets' slices, in whatever world comes
  have HQ : Hid (∀ W1, Below w0.heap.size w0 W1 → Stay (W.alloc (.cells #[.int .i64 nx, .int .i64 ny, .int .i64 nz] 141)) W1 g → W1.cell? ⟨W.heap.size, 0, none⟩ = some (.int .i64 nx) ∧ W1.cell? ⟨W.heap.size, 1, none⟩ = some (.int .i64 ny) ∧ W1.cell? ⟨W.heap.size, 2, none⟩ = some (.int .i64 nz) ∧ W1.cell? ⟨bx, ox + nx, none⟩ = some (.slice ax xl cx) ∧ W1.cell? ⟨bx, ox + ny, none⟩ = some (.slice ay yl cy) ∧ W1.cell? ⟨bx, ox + nz, none⟩ = some (.slice az zl cz)) := fun W1 hb hs => by
    have hh := HX.out.stay (by simp) hs hneb
    obtain ⟨u1, u2, u3⟩ := HC.out W1 hb
    exact ⟨(hh.get 0 rfl).1, (hh.get 1 rfl).1, (hh.get 2 rfl).1, u1, u2, u3⟩
  go_enter Tryz.func182, Tryz.ntmps182
  obtain ⟨v0, v1, v2, v3, v4, v5⟩ := HQ.out _ BZ.out HS0.out
  go_wp2_with (first
    | (go_at_call 45; (with_reducible refine (CX.out _ BZ.out).mono ?_); rintro e W1 ⟨rfl, b1⟩; have BW1 := Lib.hid (BZ.out.trans (b1.mono BZ.out.size)); have SW1 := Lib.hid (HS0.out.trans (Stay.of_below b1)); obtain ⟨v10, v11, v12, v13, v14, v15⟩ := HQ.out _ BW1.out SW1.out; have O1 := Lib.hid (HO0.out.below b1); clear b1)
    | (go_at_call 45; (with_reducible refine (CY.out _ BW1.out).mono ?_); rintro e W2 ⟨rfl, b1⟩; have BW2 := Lib.hid (BW1.out.trans (b1.mono BW1.out.size)); have SW2 := Lib.hid (SW1.out.trans (Stay.of_below b1)); obtain ⟨v20, v21, v22, v23, v24, v25⟩ := HQ.out _ BW2.out SW2.out; have O2 := Lib.hid (O1.out.below b1); clear b1)
    | (go_at_call 45; (with_reducible refine (CZ.out _ BW2.out).mono ?_); rintro e W3 ⟨rfl, b1⟩; have BW3 := Lib.hid (BW2.out.trans (b1.mono BW2.out.size)); have SW3 := Lib.hid (SW2.out.trans (Stay.of_below b1)); obtain ⟨v30, v31, v32, v33, v34, v35⟩ := HQ.out _ BW3.out SW3.out; have O3 := Lib.hid (O2.out.below b1); clear b1))
  have P4 : Hid (∀ W1, Below w0.heap.size w0 W1 → Stay (W.alloc (.cells #[.int .i64 nx, .int .i64 ny, .int .i64 nz] 141)) W1 g → W1.cell? ⟨W.heap.size, 0, none⟩ = some (.int .i64 nx) ∧ W1.cell? ⟨bx, ox + nx, none⟩ = some (.slice ax xl cx)) := fun W1 hb hs => ⟨(HQ.out W1 hb hs).1, (HQ.out W1 hb hs).2.2.2.1⟩
  have P5 : Hid (∀ W1, Below w0.heap.size w0 W1 → Stay (W.alloc (.cells #[.int .i64 nx, .int .i64 ny, .int .i64 nz] 141)) W1 g → W1.cell? ⟨W.heap.size, 1, none⟩ = some (.int .i64 ny) ∧ W1.cell? ⟨bx, ox + ny, none⟩ = some (.slice ay yl cy)) := fun W1 hb hs => ⟨(HQ.out W1 hb hs).2.1, (HQ.out W1 hb hs).2.2.2.2.1⟩
  have P7 : Hid (∀ W1, Below w0.heap.size w0 W1 → Stay (W.alloc (.cells #[.int .i64 nx, .int .i64 ny, .int .i64 nz] 141)) W1 g → W1.cell? ⟨W.heap.size, 2, none⟩ = some (.int .i64 nz)) := fun W1 hb hs => (HQ.out W1 hb hs).2.2.1
  clear v0 v1 v2 v3 v4 v5 v10 v11 v12 v13 v14 v15 v20 v21 v22 v23 v24 v25
  go_region_held3 (fun W' => W'.cell? ⟨W.heap.size, 0, none⟩ = some (.int .i64 nx) ∧ W'.cell? ⟨bx, ox + nx, none⟩ = some (.slice ax xl cx)) ((first | exact P4.out _ BW3.out SW3.out | exact P4.out _ BW3.out.drew SW3.out.drew | exact P4.out _ BW4.out SW4.out | exact P4.out _ BW5.out SW5.out))
    (first
      | (go_at_call 184; (with_reducible refine (CF1.out _ BW3.out.drew).mono ?_); rintro e W4 ⟨a4, c4, rfl, r4, b4⟩; have BW4 := Lib.hid (BW3.out.drew.trans (b4.mono BW3.out.size)); have SW4 := Lib.hid (SW3.out.drew.trans (Stay.of_below b4)); have CK1 := Lib.hid (keep_c w0.heap.size bo g nx out F1 _ W4 (O3.out.below (Below.trans ((Below.refl _ W3).drew) b4)) (by rw [E0.out]; exact hx) r4 (by omega) BW4.out.size (by rw [E0.out]; exact hdl)); clear b4 r4)
      | (go_at_call 92; (with_reducible refine CK1.out.mono ?_); rintro e W5 ⟨⟨u, rfl⟩, o5, b5, s5⟩; have BW5 := Lib.hid (BW4.out.trans b5); have SW5 := Lib.hid (SW4.out.trans s5); have O5 := Lib.hid o5; clear o5 b5 s5))
  clear v30 v31 v32 v33 v34 v35
  obtain ⟨v50, v51, v52, v53, v54, v55⟩ := HQ.out _ BW5.out SW5.out
  have E5 : Hid ((keepL out ((nx : Int), F1)).length = was.length) := by show _ = _; rw [keepL_len]; exact E0.out
  go_wp2_with fail
  go_region_held3 (fun W' => W'.cell? ⟨W.heap.size, 1, none⟩ = some (.int .i64 ny) ∧ W'.cell? ⟨bx, ox + ny, none⟩ = some (.slice ay yl cy)) ((first | exact P5.out _ BW5.out SW5.out | exact P5.out _ BW5.out.drew SW5.out.drew | exact P5.out _ BW6.out SW6.out | exact P5.out _ BW7.out SW7.out))
    (first
      | (go_at_call 184; (with_reducible refine (CF2.out _ BW5.out.drew).mono ?_); rintro e W6 ⟨a6, c6, rfl, r6, b6⟩; have BW6 := Lib.hid (BW5.out.drew.trans (b6.mono BW5.out.size)); have SW6 := Lib.hid (SW5.out.drew.trans (Stay.of_below b6)); have CK2 := Lib.hid (keep_c w0.heap.size bo g ny (keepL out ((nx : Int), F1)) F2 _ W6 (O5.out.below (Below.trans ((Below.refl _ W5).drew) b6)) (by rw [E5.out]; exact hy) r6 (by omega) BW6.out.size (by rw [E5.out]; exact hdl)); clear b6 r6)
      | (go_at_call 92; (with_reducible refine CK2.out.mono ?_); rintro e W7 ⟨⟨u, rfl⟩, o7, b7, s7⟩; have BW7 := Lib.hid (BW6.out.trans b7); have SW7 := Lib.hid (SW6.out.trans s7); have O7 := Lib.hid o7; clear o7 b7 s7))
  clear v50 v51 v52 v53 v54 v55
  have E7 : Hid ((keepL (keepL out ((nx : Int), F1)) ((ny : Int), F2)).length = was.length) := by show _ = _; rw [keepL_len]; exact E5.out
  have HL := Lib.hid (isAt_litn W7 [x1 * y1, x1 * y2, x2 * y1, x2 * y2] 3 (by simp))
  have hl7 : W7.heap.size ≠ g := by
    have h1 := SW7.out.1
    have h2 := HG.out
    simp at h1; omega
  have BW8 : Hid (∀ o, Below w0.heap.size w0 (W7.alloc o)) := fun o => BW7.out.alloc BW7.out.size o
  have SW8 : Hid (∀ o, Stay (W.alloc (.cells #[.int .i64 nx, .int .i64 ny, .int .i64 nz] 141)) (W7.alloc o) g) := fun o => SW7.out.alloc o
  have O8 : Hid (∀ o, OutAt (W7.alloc o) w0.heap.size bo g (keepL (keepL out ((nx : Int), F1)) ((ny : Int), F2))) := fun o => O7.out.below ((Below.refl _ _).alloc (Nat.le_refl _) o)
  go_wp2_with fail
  have B8' := BW8.out (.cells #[.int .i64 (x1 * y1), .int .i64 (x1 * y2), .int .i64 (x2 * y1), .int .i64 (x2 * y2)] 3)
  have S8' := SW8.out (.cells #[.int .i64 (x1 * y1), .int .i64 (x1 * y2), .int .i64 (x2 * y1), .int .i64 (x2 * y2)] 3)
  have O8' := O8.out (.cells #[.int .i64 (x1 * y1), .int .i64 (x1 * y2), .int .i64 (x2 * y1), .int .i64 (x2 * y2)] 3)
  have L8' : IsAt (W7.alloc (.cells #[.int .i64 (x1 * y1), .int .i64 (x1 * y2), .int .i64 (x2 * y1), .int .i64 (x2 * y2)] 3)) (.slice (some ⟨W7.heap.size, 0, none⟩) 4 4) [x1 * y1, x1 * y2, x2 * y1, x2 * y2] := HL.out
  generalize W7.alloc (.cells #[.int .i64 (x1 * y1), .int .i64 (x1 * y2), .int .i64 (x2 * y1), .int .i64 (x2 * y2)] 3) = W8 at *
  have BX := Lib.hid B8'
  have SX := Lib.hid S8'
  have OX := Lib.hid O8'
  have CMn : Hid (∀ W', Stay W8 W' g → Calls Tryz.prog 185 #[.slice (some ⟨W7.heap.size, 0, none⟩) 4 4] W' fun e w' => e = .returned (.int .i64 (min4 (x1 * y1) (x1 * y2) (x2 * y1) (x2 * y2))) ∧ W' = w') := fun W' h =>
    minI_c _ _ [x1 * y2, x2 * y1, x2 * y2] W' (L8'.stay h hl7) (by simp)
  have CMx : Hid (∀ W', Stay W8 W' g → Calls Tryz.prog 186 #[.slice (some ⟨W7.heap.size, 0, none⟩) 4 4] W' fun e w' => e = .returned (.int .i64 (max4 (x1 * y1) (x1 * y2) (x2 * y1) (x2 * y2))) ∧ W' = w') := fun W' h =>
    maxI_c _ _ [x1 * y2, x2 * y1, x2 * y2] W' (L8'.stay h hl7) (by simp)
  clear B8' S8' O8' L8' BW8 SW8 O8 HL
  have HKS : Hid (keepsL [((nx : Int), F1), ((ny : Int), F2), ((nz : Int), [(min4 (x1 * y1) (x1 * y2) (x2 * y1) (x2 * y2), max4 (x1 * y1) (x1 * y2) (x2 * y1) (x2 * y2))])] out = keepL (keepL (keepL out ((nx : Int), F1)) ((ny : Int), F2)) ((nz : Int), [(min4 (x1 * y1) (x1 * y2) (x2 * y1) (x2 * y2), max4 (x1 * y1) (x1 * y2) (x2 * y1) (x2 * y2))])) := rfl
  obtain ⟨mn, hmn⟩ : ∃ mn, mn = min4 (x1 * y1) (x1 * y2) (x2 * y1) (x2 * y2) := ⟨_, rfl⟩
  obtain ⟨mx, hmx⟩ : ∃ mx, mx = max4 (x1 * y1) (x1 * y2) (x2 * y1) (x2 * y2) := ⟨_, rfl⟩
  rw [← hmn] at CMn HKS ⊢
  rw [← hmx] at CMx HKS ⊢
  have HMN := Lib.hid hmn
  have HMX := Lib.hid hmx
  clear hmn hmx
  have hv8 := P7.out _ BX.out SX.out
  go_region_held3 (fun W' => W'.cell? ⟨W.heap.size, 2, none⟩ = some (.int .i64 nz)) ((first | exact P7.out _ BX.out SX.out | exact P7.out _ BX.out.drew SX.out.drew | exact P7.out _ BW9.out SW9.out | exact P7.out _ (BX.out.drew.alloc BX.out.size _) (SX.out.drew.alloc _) | exact P7.out _ BW10.out SW10.out))
    (first
      | (go_at_call 185; (with_reducible refine (CMn.out _ (Stay.refl W8 g).drew).mono ?_); rintro e w' ⟨rfl, rfl⟩)
      | (go_at_call 186; (with_reducible refine (CMx.out _ (Stay.refl W8 g).drew).mono ?_); rintro e w' ⟨rfl, rfl⟩)
      | (go_at_call 92; refine (keep_c w0.heap.size bo g nz (keepL (keepL out ((nx : Int), F1)) ((ny : Int), F2)) [(mn, mx)] _ _ ((OX.out.below ((Below.refl _ W8).drew)).below ((Below.refl _ _).alloc (Nat.le_refl _) _)) (by rw [E7.out]; exact hz) (rgAt_new W8.drew mn mx _) (by simp) (Nat.le_trans BX.out.size (by simp)) (by rw [E7.out]; exact hdl)).mono ?_; rintro e W10 ⟨⟨u, rfl⟩, o10, b10, s10⟩; have BW10 := Lib.hid ((BX.out.drew.alloc BX.out.size _).trans b10); have SW10 := Lib.hid ((SX.out.drew.alloc _).trans s10); have O10 := Lib.hid o10; clear o10 b10 s10))
  go_wp2_with fail
  go_ret
  exact ⟨below_of HW.out BW10.out (Nat.le_trans (HZ.out _).size SW10.out.1), (Stay.of_below (HZ.out _)).trans SW10.out, .inl ⟨_, rfl, rfl, by rw [← HMN.out, ← HMX.out, HKS.out]; exact O10.out⟩⟩
end Go.Proofs.YtaekdgikgbdnnaaGreat
