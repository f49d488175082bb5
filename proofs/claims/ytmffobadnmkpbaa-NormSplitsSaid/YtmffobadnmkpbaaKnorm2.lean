/-
  coneyref10.gather, walked.
  norm.Goals: what its closures hold on to; the first one walked.
-/
import Derived.Test.YtmffobadnmkpbaaKnorm1
import Derived.Test.YtmffobadnmkpbaaKpars3
import Derived.Deep.Cut
import Derived.Test.YtmffobadnmkpbaaKtmn2
namespace Go.Proofs.Ytmffobadnmkpbaa
open Go.RowKit

/-- a list of terms that grows, above a place -/
structure TL (p : Nat → Prop) (h : Nat) (w1 wr : World) (v : Value) (L : List (Tm × Value)) : Prop where
  own : OwnTs p h wr v L
  bel : Below h w1 wr
  sz : h ≤ wr.heap.size
theorem TL.below {p : Nat → Prop} {h : Nat} {w1 wr wr' : World} {v : Value} {L : List (Tm × Value)} (H : TL p h w1 wr v L) (hb : Below wr.heap.size wr wr') : TL p h w1 wr' v L :=
  ⟨H.own.below hb, H.bel.trans (hb.mono H.sz), Nat.le_trans H.sz hb.size⟩
theorem TL.grow {p : Nat → Prop} {h : Nat} {w1 wr w' : World} {v v' : Value} {L X : List (Tm × Value)} (H : TL p h w1 wr v L) (hX : ∀ x ∈ X, TmAt (fun b => v.ownBlock ≠ some b ∧ p b) wr x.1 x.2)
    (ho : w'.ownsRow h 24 4 v' (L.length + X.length) (tmCs L ++ tmCs X)) (hb : Below h wr w') (hk : KeepsBut wr w' v) (hp : ∀ g, v'.ownBlock = some g → v.ownBlock = some g ∨ wr.heap.size ≤ g) : TL p h w1 w' v' (L ++ X) :=
  ⟨H.own.grow hX ho hk hp, H.bel.trans hb, Nat.le_trans H.sz hb.size⟩
theorem TL.ret {p : Nat → Prop} {w wr : World} {o : Obj} {ao : Option Addr} {n cap : Nat} {L : List (Tm × Value)} {G : List Tm} (H : TL (fun b => (p b ∧ b < w.heap.size) ∨ w.heap.size ≤ b) (w.heap.size + 1) (w.alloc o) wr (.slice ao n cap) L) (hG : L.map Prod.fst = G) (hn : n = L.length) : RetOwnT p G w (.returned (.slice ao n cap)) wr := by
  subst hn
  exact ⟨ao, cap, L, rfl, H.own.weaken (by omega) (fun _ h => h), hG, below_box H.bel⟩
/-- the arguments that a call's own list bears, beside another list of the call's own -/
theorem TmAt.beside {p : Nat → Prop} {w wr W : World} {v u : Value} {t : Tm} {a : Value} (h : TmAt (fun b => u.ownBlock ≠ some b ∧ ((((p b ∧ b < w.heap.size)) ∧ b < wr.heap.size) ∨ wr.heap.size ≤ b)) W t a) (hv : ∀ g, v.ownBlock = some g → w.heap.size ≤ g ∧ g < wr.heap.size) (hs : w.heap.size ≤ wr.heap.size) :
    TmAt (fun b => v.ownBlock ≠ some b ∧ ((p b ∧ b < w.heap.size) ∨ w.heap.size ≤ b)) W t a :=
  h.mono fun b _ hb => ⟨⟨fun he => by have := hv b he; rcases hb.2 with h1 | h1 <;> omega, by rcases hb.2 with h1 | h1; (· exact .inl h1.1); (· exact .inr (by omega))⟩, rfl⟩
def RGathC (t : Tm) : Prop := ∀ (p : Nat → Prop) (va : Value) (w : World), TmAt p w t va → t.ok → t.size ≤ 1000000 → Calls Try.prog 83 #[tmV t va] w (RetOwnT p t.gather w)
theorem isComma_c (t : Tm) (ao : Option Addr) (c : Nat) (W : World) : Calls Try.prog 84 #[.agg #[.int .i64 t.kind, .int .i64 t.num, .string t.name, .slice ao t.args.length c], .string ⟨#[44]⟩, .int .i64 2] W fun e w' => e = .returned (.bool (t.is [44] 2)) ∧ Below W.heap.size W w' := by
  have h := isRef_c t ao c ⟨#[44]⟩ 2 W
  rw [show isR t ⟨#[44]⟩ 2 = t.is [44] 2 from isR_is t ⟨#[44]⟩ [44] 2 (toList_lit [44]) (by simp)] at h
  exact h
theorem isTrue_c (t : Tm) (ao : Option Addr) (c : Nat) (W : World) : Calls Try.prog 84 #[.agg #[.int .i64 t.kind, .int .i64 t.num, .string t.name, .slice ao t.args.length c], .string ⟨#[116, 114, 117, 101]⟩, .int .i64 0] W fun e w' => e = .returned (.bool (t.is [116, 114, 117, 101] 0)) ∧ Below W.heap.size W w' := by
  have h := isRef_c t ao c ⟨#[116, 114, 117, 101]⟩ 0 W
  rw [show isR t ⟨#[116, 114, 117, 101]⟩ 0 = t.is [116, 114, 117, 101] 0 from isR_is t ⟨#[116, 114, 117, 101]⟩ [116, 114, 117, 101] 0 (toList_lit [116, 114, 117, 101]) (by simp)] at h
  exact h

set_option maxRecDepth 100000 in
set_option maxHeartbeats 3200000 in
theorem rgath_step (t : Tm) (p : Nat → Prop) (va : Value) (w : World) (ht : TmAt p w t va) (hok : t.ok) (hb : t.size ≤ 1000000) (hC : ∀ u ∈ t.args, RGathC u) :
    Calls Try.prog 83 #[tmV t va] w (RetOwnT p t.gather w) := by
  obtain ⟨ao, cc, rfl, hc1, hc2⟩ := ht.shape
  obtain ⟨i0, hi, hz0, hz1, hz2⟩ := info_parts Try.infoTerm
  have HT := Lib.hid ht
  have CI := Lib.hid (fun W => isComma_c t ao cc W)
  have CJ := Lib.hid (fun W => isTrue_c t ao cc W)
  have T0 : Hid (TL (fun b => (p b ∧ b < w.heap.size) ∨ w.heap.size ≤ b) (w.heap.size + 1) (w.alloc (.cells #[.int .i64 t.kind, .int .i64 t.num, .string t.name, .slice ao t.args.length cc] 24)) ((w.alloc (.cells #[.int .i64 t.kind, .int .i64 t.num, .string t.name, .slice ao t.args.length cc] 24)).alloc (.cells #[] 24)) (.slice (some ⟨w.heap.size + 1, 0, none⟩) 0 0) []) := by
    refine ⟨?_, (Below.refl _ _).alloc (by simp) _, by simp⟩
    have h := OwnTs.made (fun b => (p b ∧ b < w.heap.size) ∨ w.heap.size ≤ b) (w.alloc (.cells #[.int .i64 t.kind, .int .i64 t.num, .string t.name, .slice ao t.args.length cc] 24))
    simp only [World.size_alloc] at h
    exact h
  cases h1 : t.is [44] 2 with
  | true =>
    obtain ⟨x, y, hxy, hg, hk⟩ := Tm.gather_and h1
    have CX := Lib.hid (hC x (by rw [hxy]; simp))
    have CY := Lib.hid (hC y (by rw [hxy]; simp))
    have hox := Lib.hid (Tm.ok_args hok x (by rw [hxy]; simp))
    have hoy := Lib.hid (Tm.ok_args hok y (by rw [hxy]; simp))
    have hsx : x.size ≤ 1000000 := by have := Tm.args_size (t := t) (u := x) (by rw [hxy]; simp); omega
    have hsy : y.size ≤ 1000000 := by have := Tm.args_size (t := t) (u := y) (by rw [hxy]; simp); omega
    have hl2 : t.args.length = 2 := by rw [hxy]; rfl
    obtain ⟨b, off, a0, hao, _, hpb, hcx, htx⟩ := (show ∃ b off a, ao = some ⟨b, off, none⟩ ∧ True ∧ p b ∧ CellsT w b (off + 0 * 4) x a ∧ TmAt p w x a by
      obtain ⟨b, off, a, h1, _, h2, h3, h4⟩ := ht.arg 0 (by omega)
      have e : t.args[0] = x := by simp [hxy]
      rw [e] at h3 h4
      exact ⟨b, off, a, h1, trivial, h2, h3, h4⟩)
    obtain ⟨b', off', a1, hao', hcy, hty⟩ := (show ∃ b off a, ao = some ⟨b, off, none⟩ ∧ CellsT w b (off + 1 * 4) y a ∧ TmAt p w y a by
      obtain ⟨b, off, a, h1, _, h2, h3, h4⟩ := ht.arg 1 (by omega)
      have e : t.args[1] = y := by simp [hxy]
      rw [e] at h3 h4
      exact ⟨b, off, a, h1, h3, h4⟩)
    subst hao
    simp only [Option.some.injEq, Addr.mk.injEq, and_true] at hao'
    obtain ⟨rfl, rfl⟩ := hao'
    obtain ⟨p0, q0, rfl, _⟩ := htx.shape
    obtain ⟨p1, q1, rfl, _⟩ := hty.shape
    have hbl := hcx.lt
    simp only [Nat.zero_mul, Nat.add_zero, Nat.one_mul] at hcx hcy
    have HG := Lib.hid hg
    have HXT := Lib.hid htx
    have HYT := Lib.hid hty
    have HXC := Lib.hid hcx
    have HYC := Lib.hid hcy
    obtain ⟨G, hGd⟩ : ∃ G, G = t.gather := ⟨_, rfl⟩
    rw [← hGd]
    have HG2 : Hid (G = x.gather ++ y.gather) := hGd.trans hg
    rw [h1] at CI
    rw [hl2] at T0 CI CJ ⊢
    have hgx := x.gather_len
    have hgy := y.gather_len
    unfold tmV
    rw [hk] at T0 CI CJ ⊢
    clear hGd hg htx hty hcx hcy ht hC hok hb h1 hxy hc1 hc2 hk HG
    -- what a later world knows
    have KK : Hid (∀ W, Below (w.heap.size + 1) (w.alloc (.cells #[.int .i64 4, .int .i64 t.num, .string t.name, .slice (some ⟨b, off, none⟩) 2 cc] 24)) W → (W.cell? ⟨w.heap.size, 0, none⟩ = some (.int .i64 4) ∧ W.cell? ⟨w.heap.size, 1, none⟩ = some (.int .i64 t.num) ∧ W.cell? ⟨w.heap.size, 2, none⟩ = some (.string t.name) ∧ W.cell? ⟨w.heap.size, 3, none⟩ = some (.slice (some ⟨b, off, none⟩) 2 cc)) ∧ CellsT W b off x (.slice p0 x.args.length q0) ∧ CellsT W b (off + 4) y (.slice p1 y.args.length q1) ∧ Below w.heap.size w W) := fun W h =>
      ⟨box_one h, HXC.out.block ((below_box h).block _ hbl), HYC.out.block ((below_box h).block _ hbl), below_box h⟩
    have CGX : Hid (∀ W, Below w.heap.size w W → Calls Try.prog 83 #[.agg #[.int .i64 x.kind, .int .i64 x.num, .string x.name, .slice p0 x.args.length q0]] W (RetOwnT (fun b => p b ∧ b < w.heap.size) x.gather W)) := fun W h => CX.out _ _ W (HXT.out.mono fun b hb hp => ⟨⟨hp, hb⟩, h.block b hb⟩) hox.out hsx
    have CGY : Hid (∀ W, Below w.heap.size w W → Calls Try.prog 83 #[.agg #[.int .i64 y.kind, .int .i64 y.num, .string y.name, .slice p1 y.args.length q1]] W (RetOwnT (fun b => p b ∧ b < w.heap.size) y.gather W)) := fun W h => CY.out _ _ W (HYT.out.mono fun b hb hp => ⟨⟨hp, hb⟩, h.block b hb⟩) hoy.out hsy
    have STEP : Hid (∀ (W W2 : World) (v : Value) (L : List (Tm × Value)) (ai : Option Addr) (ci : Nat) (X : List (Tm × Value)) (G : List Tm), TL (fun b => (p b ∧ b < w.heap.size) ∨ w.heap.size ≤ b) (w.heap.size + 1) (w.alloc (.cells #[.int .i64 4, .int .i64 t.num, .string t.name, .slice (some ⟨b, off, none⟩) 2 cc] 24)) W v L → Below W.heap.size W W2 →
        OwnTs (fun b => (((p b ∧ b < w.heap.size)) ∧ b < W.heap.size) ∨ W.heap.size ≤ b) W.heap.size W2 (.slice ai X.length ci) X →
        TL (fun b => (p b ∧ b < w.heap.size) ∨ w.heap.size ≤ b) (w.heap.size + 1) (w.alloc (.cells #[.int .i64 4, .int .i64 t.num, .string t.name, .slice (some ⟨b, off, none⟩) 2 cc] 24)) W2 v L ∧ SlAt W2 4 (.slice ai X.length ci) X.length (tmCs X) ∧ (∀ u ∈ tmCs X, u.oneCell' = true) ∧ (∀ x ∈ X, TmAt (fun b => v.ownBlock ≠ some b ∧ ((p b ∧ b < w.heap.size) ∨ w.heap.size ≤ b)) W2 x.1 x.2)) := fun W W2 v L ai ci X G hT hb ho =>
      ⟨hT.below hb, SlAt.of_own ho.own, tmCs_one ho.tms, fun x hx => (ho.tms x hx).beside (fun g hg => by have := hT.own.own.lt g hg; omega) (by have := hT.sz; omega)⟩
    go_enter Try.func83, Try.ntmps83
    go_upto_region 3 with (first
      | (go_at_call 84; ((with_reducible refine (CI.out _).mono ?_); rintro e W1 ⟨rfl, bb⟩; have T1 := Lib.hid (T0.out.below bb); clear bb)))
    obtain ⟨⟨y0, y1, y2, y3⟩, kx, ky, hbW⟩ := KK.out _ T1.out.bel
    have HBW := Lib.hid hbW
    have hb1 := kx.lt
    obtain ⟨x0, x1, x2, x3⟩ := kx
    clear ky hbW CI CJ T0
    go_upto_region 4 with (first
      | (go_at_call 83; ((with_reducible refine (CGX.out _ HBW.out).mono ?_); rintro e W2 ⟨ai, ci, X, rfl, ho, hX, bb⟩; obtain ⟨t2, s2, o2, m2⟩ := STEP.out _ _ _ _ _ _ _ [] T1.out bb ho; have T2 := Lib.hid t2; have S2 := Lib.hid s2; have O2 := Lib.hid o2; have M2 := Lib.hid m2; have HX := Lib.hid hX; have hxl : X.length ≤ 1000000 := (by have := congrArg List.length hX; simp at this; omega); clear bb ho t2 s2 o2 m2 hX))
      | (at_builtin; refine wpList_append_slX rfl (.tmp 8) (.tmp 13) 22 rfl (w.heap.size + 1) 24 i0 (.agg #[.int .i64 0, .int .i64 0, .string ByteArray.empty, .slice none 0 0]) 4 56 Try.underlying22 hi hz0 hz1 hz2 rfl (by decide) _ 0 [] rfl T2.out.own.own _ X.length (tmCs X) rfl S2.out O2.out ⟨by omega, by omega⟩ T2.out.sz ?_; intro v3 W3 ho3 hb3 hk3 hl3; have T3 := Lib.hid (T2.out.grow M2.out ho3 hb3 hk3 (lies_or hl3)); clear ho3 hb3 hk3 hl3))
    rw [List.nil_append] at T3
    obtain ⟨a3, c3, rfl, _⟩ := T3.out.own.shape
    clear y0 y1 y2 y3 x0 x1 x2 x3 T1 T2 S2 O2 M2 HBW CGX
    obtain ⟨⟨y0, y1, y2, y3⟩, kx, ky, hbW⟩ := KK.out _ T3.out.bel
    have HBW := Lib.hid hbW
    have hb1 := ky.lt
    obtain ⟨x0, x1, x2, x3⟩ := ky
    clear kx hbW
    go_wp2_with (first
      | (go_at_call 83; ((with_reducible refine (CGY.out _ HBW.out).mono ?_); rintro e W4 ⟨ai2, ci2, X2, rfl, ho, hX2, bb⟩; obtain ⟨t4, s4, o4, m4⟩ := STEP.out _ _ _ _ _ _ _ [] T3.out bb ho; have T4 := Lib.hid t4; have S4 := Lib.hid s4; have O4 := Lib.hid o4; have M4 := Lib.hid m4; have HX2 := Lib.hid hX2; have hxl2 : X2.length ≤ 1000000 := (by have := congrArg List.length hX2; simp at this; omega); clear bb ho t4 s4 o4 m4 hX2))
      | (at_builtin; refine wpList_append_slX rfl (.tmp 15) (.tmp 20) 22 rfl (w.heap.size + 1) 24 i0 (.agg #[.int .i64 0, .int .i64 0, .string ByteArray.empty, .slice none 0 0]) 4 56 Try.underlying22 hi hz0 hz1 hz2 rfl (by decide) _ X.length (tmCs X) rfl T4.out.own.own _ X2.length (tmCs X2) rfl S4.out O4.out ⟨by omega, by omega⟩ T4.out.sz ?_; intro v5 W5 ho5 hb5 hk5 hl5; have T5 := Lib.hid (T4.out.grow M4.out ho5 hb5 hk5 (lies_or hl5)); clear ho5 hb5 hk5 hl5))
    obtain ⟨a5, c5, rfl, _⟩ := T5.out.own.shape
    go_ret
    exact T5.out.ret (by rw [List.map_append, HX.out, HX2.out, HG2.out]) rfl
  | false =>
    have CI2 := CI
    rw [h1] at CI
    cases h2 : t.is [116, 114, 117, 101] 0 with
    | true =>
      have HG : Hid (t.gather = []) := Tm.gather_true h1 h2 hok
      rw [HG.out]
      rw [h2] at CJ
      unfold tmV
      clear ht hC hok hb h1 hc1 hc2 HG h2 CI2
      have KK : Hid (∀ W, Below (w.heap.size + 1) (w.alloc (.cells #[.int .i64 t.kind, .int .i64 t.num, .string t.name, .slice ao t.args.length cc] 24)) W → (W.cell? ⟨w.heap.size, 0, none⟩ = some (.int .i64 t.kind) ∧ W.cell? ⟨w.heap.size, 1, none⟩ = some (.int .i64 t.num) ∧ W.cell? ⟨w.heap.size, 2, none⟩ = some (.string t.name) ∧ W.cell? ⟨w.heap.size, 3, none⟩ = some (.slice ao t.args.length cc))) := fun W h => box_one h
      go_enter Try.func83, Try.ntmps83
      go_upto_region 5 with (first
        | (go_at_call 84; ((with_reducible refine (CI.out _).mono ?_); rintro e W1 ⟨rfl, bb⟩; have T1 := Lib.hid (T0.out.below bb); clear bb; obtain ⟨y0, y1, y2, y3⟩ := KK.out _ T1.out.bel)))
      go_wp2_with (first
        | (go_at_call 84; ((with_reducible refine (CJ.out _).mono ?_); rintro e W2 ⟨rfl, bb⟩; have T2 := Lib.hid (T1.out.below bb); clear bb)))
      go_ret
      exact T2.out.ret rfl rfl
    | false =>
      rw [h2] at CJ
      have KK : Hid (∀ W, Below (w.heap.size + 1) (w.alloc (.cells #[.int .i64 t.kind, .int .i64 t.num, .string t.name, .slice ao t.args.length cc] 24)) W → (W.cell? ⟨w.heap.size, 0, none⟩ = some (.int .i64 t.kind) ∧ W.cell? ⟨w.heap.size, 1, none⟩ = some (.int .i64 t.num) ∧ W.cell? ⟨w.heap.size, 2, none⟩ = some (.string t.name) ∧ W.cell? ⟨w.heap.size, 3, none⟩ = some (.slice ao t.args.length cc))) := fun W h => box_one h
      have TT : Hid (∀ W, Below (w.heap.size + 1) (w.alloc (.cells #[.int .i64 t.kind, .int .i64 t.num, .string t.name, .slice ao t.args.length cc] 24)) W → TmAt (fun b => p b ∧ b < w.heap.size) W t (.slice ao t.args.length cc)) := fun W h => HT.out.mono fun b hb hp => ⟨⟨hp, hb⟩, (below_box h).block b hb⟩
      by_cases hk : t.kind = 1
      · have HG : Hid (t.gather = [callOf t]) := Tm.gather_var hk
        rw [HG.out]
        have hkk : (t.kind == 1) = true := by simpa using hk
        unfold tmV
        clear ht hC hok hb h1 hc1 hc2 HG h2 CI2 hk
        go_enter Try.func83, Try.ntmps83
        go_upto_region 5 with (first
          | (go_at_call 84; ((with_reducible refine (CI.out _).mono ?_); rintro e W1 ⟨rfl, bb⟩; have T1 := Lib.hid (T0.out.below bb); clear bb; obtain ⟨y0, y1, y2, y3⟩ := KK.out _ T1.out.bel)))
        go_upto_region 7 with (first
          | (go_at_call 84; ((with_reducible refine (CJ.out _).mono ?_); rintro e W2 ⟨rfl, bb⟩; have T2 := Lib.hid (T1.out.below bb); clear bb)))
        clear y0 y1 y2 y3 T0 T1
        obtain ⟨y0, y1, y2, y3⟩ := KK.out _ T2.out.bel
        have AL : Hid (Below W2.heap.size W2 (W2.alloc (.cells #[.int .i64 t.kind, .int .i64 t.num, .string t.name, .slice ao t.args.length cc] 24))) := (Below.refl _ _).alloc (Nat.le_refl _) _
        have T3 := Lib.hid (T2.out.below AL.out)
        have HMS : Hid (∀ x ∈ [(callOf t, Value.slice (some ⟨W2.heap.size, 0, none⟩) 1 1)], TmAt (fun b => (Value.slice (some ⟨w.heap.size + 1, 0, none⟩) 0 0).ownBlock ≠ some b ∧ ((p b ∧ b < w.heap.size) ∨ w.heap.size ≤ b)) (W2.alloc (.cells #[.int .i64 t.kind, .int .i64 t.num, .string t.name, .slice ao t.args.length cc] 24)) x.1 x.2) := fun x hx => by
          simp only [List.mem_singleton] at hx; subst hx
          have hsz := T2.out.sz
          have hsz2 : w.heap.size + 1 < W2.heap.size := (T2.out.own.own.lt _ rfl).2
          refine .node (av0 := fun _ => .slice ao t.args.length cc) (by simp) (by simp) (by simp [maxLen]) ⟨by simp [Value.ownBlock]; omega, .inr (by omega)⟩ (fun i hi => ?_) (fun i hi => ?_)
          · have h0 : i = 0 := by simp at hi; exact hi
            subst h0
            exact ⟨by simp, by simp, by simp, by simp⟩
          · have h0 : i = 0 := by simp at hi; exact hi
            subst h0
            exact (TT.out _ T3.out.bel).mono fun b _ hb => ⟨⟨by simp [Value.ownBlock]; omega, .inl hb⟩, rfl⟩
        go_wp2_with (first
          | (at_builtin; refine wpList_appendX rfl (.tmp 30) (.tmp 33) 22 rfl (w.heap.size + 1) 24 i0 (.agg #[.int .i64 0, .int .i64 0, .string ByteArray.empty, .slice none 0 0]) 4 56 Try.underlying22 hi hz0 hz1 hz2 rfl (by decide) _ 0 [] rfl T3.out.own.own #[.int .i64 4, .int .i64 0, .string ⟨#[99, 97, 108, 108]⟩, .slice (some ⟨W2.heap.size, 0, none⟩) 1 1] (W2.heap.size + 1) rfl (by simp) rfl (one4r rfl rfl rfl rfl) ⟨by omega, by omega⟩ T3.out.sz ?_; intro g cap W4 ho hb hk hl; have T4 := Lib.hid (T3.out.grow (X := [(callOf t, Value.slice (some ⟨W2.heap.size, 0, none⟩) 1 1)]) HMS.out (by simpa [tmCs, tmC, callOf, Tm.kind, Tm.num, Tm.name] using ho) hb hk (lies_at hl)); clear ho hb hk hl))
        go_ret
        exact T4.out.ret rfl rfl
      · have HG : Hid (t.gather = [t]) := Tm.gather_self h1 h2 hk
        rw [HG.out]
        have hkk : (t.kind == 1) = false := by simpa using hk
        unfold tmV
        clear ht hC hok hb h1 hc1 hc2 HG h2 CI2 hk
        go_enter Try.func83, Try.ntmps83
        go_upto_region 5 with (first
          | (go_at_call 84; ((with_reducible refine (CI.out _).mono ?_); rintro e W1 ⟨rfl, bb⟩; have T1 := Lib.hid (T0.out.below bb); clear bb; obtain ⟨y0, y1, y2, y3⟩ := KK.out _ T1.out.bel)))
        go_upto_region 7 with (first
          | (go_at_call 84; ((with_reducible refine (CJ.out _).mono ?_); rintro e W2 ⟨rfl, bb⟩; have T2 := Lib.hid (T1.out.below bb); clear bb)))
        clear y0 y1 y2 y3 T0 T1
        obtain ⟨y0, y1, y2, y3⟩ := KK.out _ T2.out.bel
        have HMS : Hid (∀ x ∈ [(t, Value.slice ao t.args.length cc)], TmAt (fun b => (Value.slice (some ⟨w.heap.size + 1, 0, none⟩) 0 0).ownBlock ≠ some b ∧ ((p b ∧ b < w.heap.size) ∨ w.heap.size ≤ b)) W2 x.1 x.2) := fun x hx => by
          simp only [List.mem_singleton] at hx; subst hx
          exact (TT.out _ T2.out.bel).mono fun b _ hb => ⟨⟨by simp [Value.ownBlock]; omega, .inl hb⟩, rfl⟩
        go_wp2_with (first
          | (at_builtin; refine wpList_appendX rfl (.tmp 35) (.tmp 37) 22 rfl (w.heap.size + 1) 24 i0 (.agg #[.int .i64 0, .int .i64 0, .string ByteArray.empty, .slice none 0 0]) 4 56 Try.underlying22 hi hz0 hz1 hz2 rfl (by decide) _ 0 [] rfl T2.out.own.own _ _ rfl rfl rfl (one4r rfl rfl rfl rfl) ⟨by omega, by omega⟩ T2.out.sz ?_; intro g cap W3 ho hb hk hl; have T3 := Lib.hid (T2.out.grow (X := [(t, Value.slice ao t.args.length cc)]) HMS.out (by simpa [tmCs, tmC] using ho) hb hk (lies_at hl)); clear ho hb hk hl))
        go_ret
        exact T3.out.ret rfl rfl
theorem rgath_all (t : Tm) : RGathC t := by
  induction t using Tm.ind with
  | h4 s l ih => exact fun p va w ht hok hb => rgath_step _ p va w ht hok hb ih
  | _ => exact fun p va w ht hok hb => rgath_step _ p va w ht hok hb (by simp [Tm.args])
end Go.Proofs.Ytmffobadnmkpbaa
namespace Go.Proofs.Ytmffobadnmkpbaa
open Go.RowKit

structure GB (h : Nat) (w0 wr : World) (b : Bool) (v : Value) (L : List (Tm × Value)) : Prop where
  obox : Box1 wr (h + 1) v
  own : OwnTs (fun b => b < h ∨ h + 5 ≤ b) (h + 5) wr v L
  wbox : Box1 wr (h + 2) (.bool b)
  cbox : Box1 wr (h + 3) (.func (.func 80) #[] #[.pointer (some ⟨h + 2, 0, none⟩), .pointer (some ⟨h + 3, 0, none⟩)])
  gbox : Box1 wr (h + 4) (.func (.func 81) #[] #[.pointer (some ⟨h + 4, 0, none⟩), .pointer (some ⟨h + 1, 0, none⟩)])
  bel : Below (h + 1) w0 wr
  size : h + 5 ≤ wr.heap.size
theorem GB.below {h : Nat} {w0 wr wr' : World} {b : Bool} {v : Value} {L : List (Tm × Value)} (H : GB h w0 wr b v L) (hb : Below wr.heap.size wr wr') : GB h w0 wr' b v L :=
  ⟨H.obox.past hb, H.own.below hb, H.wbox.past hb, H.cbox.past hb, H.gbox.past hb, H.bel.trans (hb.mono (by have := H.size; omega)), Nat.le_trans H.size hb.size⟩
theorem GB.setw {h : Nat} {w0 wr : World} {b : Bool} {v : Value} {L : List (Tm × Value)} (H : GB h w0 wr b v L) (c : Bool) : GB h w0 (wr.setCell ⟨h + 2, 0, none⟩ (.bool c)) c v L := by
  refine ⟨H.obox.far (by simp) _, ⟨own_setCell H.own.own (by simp) _, fun x hx => (H.own.tms x hx).mono fun k _ hk => ⟨hk, Below.heap_setCell _ _ _ _ (by have := hk.2; simp; omega)⟩⟩, H.wbox.set _, H.cbox.far (by simp) _, H.gbox.far (by simp) _, H.bel.setCell (p := ⟨h + 2, 0, none⟩) (by simp) _, by have := H.size; simpa using this⟩
/-- behind an append and the store of what came out -/
theorem GB.app {h : Nat} {w0 wr w6 : World} {b : Bool} {v v' : Value} {L X : List (Tm × Value)} (H : GB h w0 wr b v L) (ho : OwnTs (fun b => b < h ∨ h + 5 ≤ b) (h + 5) w6 v' X) (hb : Below (h + 5) wr w6) : GB h w0 (w6.setCell ⟨h + 1, 0, none⟩ v') b v' X := by
  have hsz := H.size
  have hn : ∀ b, b < h + 5 → w6.heap[b]? = wr.heap[b]? := fun b hb' => hb.block b hb'
  refine ⟨(H.obox.blockEq (hn _ (by omega))).set v', ⟨own_setCell ho.own (by simp) _, fun x hx => (ho.tms x hx).mono fun k _ hk => ⟨hk, Below.heap_setCell _ _ _ _ (by have := hk.2; simp; omega)⟩⟩, (H.wbox.blockEq (hn _ (by omega))).far (by simp) _, (H.cbox.blockEq (hn _ (by omega))).far (by simp) _, (H.gbox.blockEq (hn _ (by omega))).far (by simp) _, (H.bel.trans (hb.mono (by omega))).setCell (p := ⟨h + 1, 0, none⟩) (by simp) v', by have := hb.size; simp; omega⟩

theorem kk4' {W : World} {b : Nat} {x0 x1 x2 x3 : Value} (h : BoxL W b [x0, x1, x2, x3]) : W.cell? ⟨b, 0, none⟩ = some x0 ∧ W.cell? ⟨b, 1, none⟩ = some x1 ∧ W.cell? ⟨b, 2, none⟩ = some x2 ∧ W.cell? ⟨b, 3, none⟩ = some x3 := ⟨(h.get 0 rfl).1, (h.get 1 rfl).1, (h.get 2 rfl).1, (h.get 3 rfl).1⟩
def CheckC (h : Nat) (w0 : World) (t : Tm) : Prop := ∀ (va : Value) (wr : World) (b : Bool) (v : Value) (L : List (Tm × Value)), GB h w0 wr b v L → TmAt (fun b => b < h) w0 t va → t.size ≤ 1000000 →
  Calls Try.prog 80 #[tmV t va, .pointer (some ⟨h + 2, 0, none⟩), .pointer (some ⟨h + 3, 0, none⟩)] wr fun e w' => e = .returned (.tuple #[]) ∧ GB h w0 w' (b || !t.callable) v L

set_option maxRecDepth 100000 in
set_option maxHeartbeats 3200000 in
theorem check_step (h : Nat) (w0 : World) (t : Tm) (va : Value) (wq : World) (b : Bool) (v : Value) (L : List (Tm × Value)) (hB : GB h w0 wq b v L) (ht : TmAt (fun b => b < h) w0 t va) (hsz : t.size ≤ 1000000) (hC : ∀ u ∈ t.args, CheckC h w0 u) :
    Calls Try.prog 80 #[tmV t va, .pointer (some ⟨h + 2, 0, none⟩), .pointer (some ⟨h + 3, 0, none⟩)] wq fun e w' => e = .returned (.tuple #[]) ∧ GB h w0 w' (b || !t.callable) v L := by
  obtain ⟨ao, cc, rfl, hc1, hc2⟩ := ht.shape
  have HT := Lib.hid (TsAt.of_tm ht)
  have HC := Lib.hid hC
  have HE := Lib.hid t.callable_eq
  have HS2 := Lib.hid (show ∀ u ∈ t.args, u.size ≤ 1000000 from fun u hu => by have := Tm.args_size hu; omega)
  have hl : t.args.length ≤ 1000000 := by have h1 := Tm.sizes_len t.args; have h2 := t.size_eq; omega
  have CT : Hid (∀ W, Calls Try.prog 43 #[.agg #[.int .i64 t.kind, .int .i64 t.num, .string t.name, .slice ao t.args.length cc]] W fun e w' => e = .returned (.bool (controlT t)) ∧ Below W.heap.size W w') := fun W => control_c t ao cc W
  have HB0 := Lib.hid (hB.below (below_one wq (.cells #[.int .i64 t.kind, .int .i64 t.num, .string t.name, .slice ao t.args.length cc] 24)))
  have hsq := hB.size
  -- behind the store
  have SB : Hid (∀ c : Bool, GB h w0 ((wq.alloc (.cells #[.int .i64 t.kind, .int .i64 t.num, .string t.name, .slice ao t.args.length cc] 24)).setCell ⟨h + 2, 0, none⟩ (.bool c)) c v L ∧ BoxL ((wq.alloc (.cells #[.int .i64 t.kind, .int .i64 t.num, .string t.name, .slice ao t.args.length cc] 24)).setCell ⟨h + 2, 0, none⟩ (.bool c)) wq.heap.size [.int .i64 t.kind, .int .i64 t.num, .string t.name, .slice ao t.args.length cc]) := fun c =>
    ⟨HB0.out.setw c, (BoxL.mk' wq #[.int .i64 t.kind, .int .i64 t.num, .string t.name, .slice ao t.args.length cc] 24).far (by simp; omega) _⟩
  obtain ⟨c, hc⟩ : ∃ c, c = (b || (t.kind == 2)) := ⟨_, rfl⟩
  have HR : Hid ((b || !t.callable) = (c || (controlT t && !Tm.callables t.args))) := by
    show _ = _; rw [hc, HE.out]; cases b <;> cases (t.kind == 2) <;> cases controlT t <;> cases Tm.callables t.args <;> rfl
  rw [HR.out]
  have wb := HB0.out.wbox.c0
  have fb := HB0.out.wbox.f0
  unfold tmV
  clear ht hC hsz hB hc1 hc2 HE HR
  generalize controlT t = ct at *
  generalize t.args = l at *
  have D : (b = true ∧ c = true) ∨ (b = false ∧ (t.kind == 2) = true ∧ c = true) ∨ (b = false ∧ (t.kind == 2) = false ∧ c = false) := by
    rw [hc]; cases b <;> cases (t.kind == 2) <;> simp
  clear hc
  cases ct with
  | false =>
    rcases D with ⟨rfl, rfl⟩ | ⟨rfl, hk, rfl⟩ | ⟨rfl, hk, rfl⟩
    · go_enter Try.func80, Try.ntmps80
      go_upto_region 2 with (fail)
      obtain ⟨g1, x1⟩ := SB.out true
      have G1 := Lib.hid g1
      have X1 := Lib.hid x1
      obtain ⟨x0, x1, x2, x3⟩ := kk4' x1
      clear wb fb SB g1
      go_wp2_with (first | (go_at_call 43; ((with_reducible refine (CT.out _).mono ?_); rintro e W2 ⟨rfl, bb⟩; have G2 := Lib.hid (G1.out.below bb); clear bb)))
      go_end0
      exact ⟨rfl, by simpa using G2.out⟩
    · go_enter Try.func80, Try.ntmps80
      go_upto_region 2 with (fail)
      obtain ⟨g1, x1⟩ := SB.out true
      have G1 := Lib.hid g1
      have X1 := Lib.hid x1
      obtain ⟨x0, x1, x2, x3⟩ := kk4' x1
      clear wb fb SB g1
      go_wp2_with (first | (go_at_call 43; ((with_reducible refine (CT.out _).mono ?_); rintro e W2 ⟨rfl, bb⟩; have G2 := Lib.hid (G1.out.below bb); clear bb)))
      go_end0
      exact ⟨rfl, by simpa using G2.out⟩
    · go_enter Try.func80, Try.ntmps80
      go_upto_region 2 with (fail)
      obtain ⟨g1, x1⟩ := SB.out false
      have G1 := Lib.hid g1
      have X1 := Lib.hid x1
      obtain ⟨x0, x1, x2, x3⟩ := kk4' x1
      clear wb fb SB g1
      go_wp2_with (first | (go_at_call 43; ((with_reducible refine (CT.out _).mono ?_); rintro e W2 ⟨rfl, bb⟩; have G2 := Lib.hid (G1.out.below bb); clear bb)))
      go_end0
      exact ⟨rfl, by simpa using G2.out⟩
  | true =>
    rcases D with ⟨rfl, rfl⟩ | ⟨rfl, hk, rfl⟩ | ⟨rfl, hk, rfl⟩
    · go_enter Try.func80, Try.ntmps80
      go_upto_region 2 with (fail)
      obtain ⟨g1, x1⟩ := SB.out true
      have G1 := Lib.hid g1
      have X1 := Lib.hid x1
      obtain ⟨x0, x1, x2, x3⟩ := kk4' x1
      clear wb fb SB g1
      go_wp2_with (first | (go_at_call 43; ((with_reducible refine (CT.out _).mono ?_); rintro e W2 ⟨rfl, bb⟩; have G2 := Lib.hid (G1.out.below bb); have X2 := Lib.hid (X1.out.block (bb.block _ (X1.out.lt (by simp)))); clear x0 x1 x2 x3; obtain ⟨x0, x1, x2, x3⟩ := kk4' X2.out; clear bb)))
      clear x0 x1 x2 x3 X1 X2 G1 CT
      go_loopg [17] l.length (fun n i wr => ∃ k : Nat, k ≤ l.length ∧ i = .int .i64 k ∧ Hid (n = l.length - k) ∧ Hid (GB h w0 wr (true || !Tm.callables (l.take k)) v L))
      case atStart => exact ⟨0, by omega, rfl, rfl, Lib.hid (by simpa [Tm.callables] using G2.out)⟩
      case round =>
        obtain ⟨k, hk, rfl, HN2, HW⟩ := hrel
        by_cases hlt : k < l.length
        · have hbw := HW.out.bel
          obtain ⟨b1, off, a1, rfl, hpb, hcc, hta⟩ := HT.out.get k hlt
          obtain ⟨ao1, c1, rfl, _⟩ := hta.shape
          have CX := Lib.hid (HC.out l[k] (List.getElem_mem hlt))
          have HD := Lib.hid (Tm.callables_take l k hlt)
          have hbb := HS2.out _ (List.getElem_mem hlt)
          generalize l[k] = u at *
          have hcw := hcc.block (hbw.block _ (by omega))
          obtain ⟨x0, x1, x2, x3⟩ := hcw
          have hbl := World.block_lt_of_cell? wr _ x0
          have wlk := HW.out.cbox.c0
          have HZ2 := Lib.hid (below_one wr)
          have hwb := World.block_lt_of_cell? wr _ wlk
          obtain ⟨d, hd⟩ : ∃ d, d = (true || !Tm.callables (l.take k)) := ⟨_, rfl⟩
          rw [← hd] at HW
          have HD2 : Hid ((true || !Tm.callables (l.take (k + 1))) = (d || !u.callable)) := by show _ = _; rw [hd, HD.out]; cases Tm.callables (l.take k) <;> cases u.callable <;> rfl
          have CC : Hid (∀ W, Below wr.heap.size wr W → Calls Try.prog 80 #[.agg #[.int .i64 u.kind, .int .i64 u.num, .string u.name, .slice ao1 u.args.length c1], .pointer (some ⟨h + 2, 0, none⟩), .pointer (some ⟨h + 3, 0, none⟩)] W fun e w' => e = .returned (.tuple #[]) ∧ GB h w0 w' (d || !u.callable) v L) := fun W hW => CX.out _ W d v L (HW.out.below hW) hta hbb
          clear hta CX hbw hcc hbb hd
          go_wp2_with (first | (go_at_call 80; ((with_reducible refine (CC.out _ (HZ2.out _)).mono ?_); rintro e W2 ⟨rfl, bb⟩; have BB := Lib.hid bb; clear bb)))
          go_roundg (l.length - (k + 1))
          case measure => have := HN2.out; omega
          case rel => exact ⟨k + 1, by omega, by go_num, rfl, by rw [HD2.out]; exact BB⟩
        · obtain rfl : k = l.length := by omega
          go_wp2
          go_end0
          exact ⟨rfl, by have h := HW.out; rw [List.take_length] at h; simpa using h⟩
    · go_enter Try.func80, Try.ntmps80
      go_upto_region 2 with (fail)
      obtain ⟨g1, x1⟩ := SB.out true
      have G1 := Lib.hid g1
      have X1 := Lib.hid x1
      obtain ⟨x0, x1, x2, x3⟩ := kk4' x1
      clear wb fb SB g1
      go_wp2_with (first | (go_at_call 43; ((with_reducible refine (CT.out _).mono ?_); rintro e W2 ⟨rfl, bb⟩; have G2 := Lib.hid (G1.out.below bb); have X2 := Lib.hid (X1.out.block (bb.block _ (X1.out.lt (by simp)))); clear x0 x1 x2 x3; obtain ⟨x0, x1, x2, x3⟩ := kk4' X2.out; clear bb)))
      clear x0 x1 x2 x3 X1 X2 G1 CT
      go_loopg [17] l.length (fun n i wr => ∃ k : Nat, k ≤ l.length ∧ i = .int .i64 k ∧ Hid (n = l.length - k) ∧ Hid (GB h w0 wr (true || !Tm.callables (l.take k)) v L))
      case atStart => exact ⟨0, by omega, rfl, rfl, Lib.hid (by simpa [Tm.callables] using G2.out)⟩
      case round =>
        obtain ⟨k, hk, rfl, HN2, HW⟩ := hrel
        by_cases hlt : k < l.length
        · have hbw := HW.out.bel
          obtain ⟨b1, off, a1, rfl, hpb, hcc, hta⟩ := HT.out.get k hlt
          obtain ⟨ao1, c1, rfl, _⟩ := hta.shape
          have CX := Lib.hid (HC.out l[k] (List.getElem_mem hlt))
          have HD := Lib.hid (Tm.callables_take l k hlt)
          have hbb := HS2.out _ (List.getElem_mem hlt)
          generalize l[k] = u at *
          have hcw := hcc.block (hbw.block _ (by omega))
          obtain ⟨x0, x1, x2, x3⟩ := hcw
          have hbl := World.block_lt_of_cell? wr _ x0
          have wlk := HW.out.cbox.c0
          have HZ2 := Lib.hid (below_one wr)
          have hwb := World.block_lt_of_cell? wr _ wlk
          obtain ⟨d, hd⟩ : ∃ d, d = (true || !Tm.callables (l.take k)) := ⟨_, rfl⟩
          rw [← hd] at HW
          have HD2 : Hid ((true || !Tm.callables (l.take (k + 1))) = (d || !u.callable)) := by show _ = _; rw [hd, HD.out]; cases Tm.callables (l.take k) <;> cases u.callable <;> rfl
          have CC : Hid (∀ W, Below wr.heap.size wr W → Calls Try.prog 80 #[.agg #[.int .i64 u.kind, .int .i64 u.num, .string u.name, .slice ao1 u.args.length c1], .pointer (some ⟨h + 2, 0, none⟩), .pointer (some ⟨h + 3, 0, none⟩)] W fun e w' => e = .returned (.tuple #[]) ∧ GB h w0 w' (d || !u.callable) v L) := fun W hW => CX.out _ W d v L (HW.out.below hW) hta hbb
          clear hta CX hbw hcc hbb hd
          go_wp2_with (first | (go_at_call 80; ((with_reducible refine (CC.out _ (HZ2.out _)).mono ?_); rintro e W2 ⟨rfl, bb⟩; have BB := Lib.hid bb; clear bb)))
          go_roundg (l.length - (k + 1))
          case measure => have := HN2.out; omega
          case rel => exact ⟨k + 1, by omega, by go_num, rfl, by rw [HD2.out]; exact BB⟩
        · obtain rfl : k = l.length := by omega
          go_wp2
          go_end0
          exact ⟨rfl, by have h := HW.out; rw [List.take_length] at h; simpa using h⟩
    · go_enter Try.func80, Try.ntmps80
      go_upto_region 2 with (fail)
      obtain ⟨g1, x1⟩ := SB.out false
      have G1 := Lib.hid g1
      have X1 := Lib.hid x1
      obtain ⟨x0, x1, x2, x3⟩ := kk4' x1
      clear wb fb SB g1
      go_wp2_with (first | (go_at_call 43; ((with_reducible refine (CT.out _).mono ?_); rintro e W2 ⟨rfl, bb⟩; have G2 := Lib.hid (G1.out.below bb); have X2 := Lib.hid (X1.out.block (bb.block _ (X1.out.lt (by simp)))); clear x0 x1 x2 x3; obtain ⟨x0, x1, x2, x3⟩ := kk4' X2.out; clear bb)))
      clear x0 x1 x2 x3 X1 X2 G1 CT
      go_loopg [17] l.length (fun n i wr => ∃ k : Nat, k ≤ l.length ∧ i = .int .i64 k ∧ Hid (n = l.length - k) ∧ Hid (GB h w0 wr (false || !Tm.callables (l.take k)) v L))
      case atStart => exact ⟨0, by omega, rfl, rfl, Lib.hid (by simpa [Tm.callables] using G2.out)⟩
      case round =>
        obtain ⟨k, hk, rfl, HN2, HW⟩ := hrel
        by_cases hlt : k < l.length
        · have hbw := HW.out.bel
          obtain ⟨b1, off, a1, rfl, hpb, hcc, hta⟩ := HT.out.get k hlt
          obtain ⟨ao1, c1, rfl, _⟩ := hta.shape
          have CX := Lib.hid (HC.out l[k] (List.getElem_mem hlt))
          have HD := Lib.hid (Tm.callables_take l k hlt)
          have hbb := HS2.out _ (List.getElem_mem hlt)
          generalize l[k] = u at *
          have hcw := hcc.block (hbw.block _ (by omega))
          obtain ⟨x0, x1, x2, x3⟩ := hcw
          have hbl := World.block_lt_of_cell? wr _ x0
          have wlk := HW.out.cbox.c0
          have HZ2 := Lib.hid (below_one wr)
          have hwb := World.block_lt_of_cell? wr _ wlk
          obtain ⟨d, hd⟩ : ∃ d, d = (false || !Tm.callables (l.take k)) := ⟨_, rfl⟩
          rw [← hd] at HW
          have HD2 : Hid ((false || !Tm.callables (l.take (k + 1))) = (d || !u.callable)) := by show _ = _; rw [hd, HD.out]; cases Tm.callables (l.take k) <;> cases u.callable <;> rfl
          have CC : Hid (∀ W, Below wr.heap.size wr W → Calls Try.prog 80 #[.agg #[.int .i64 u.kind, .int .i64 u.num, .string u.name, .slice ao1 u.args.length c1], .pointer (some ⟨h + 2, 0, none⟩), .pointer (some ⟨h + 3, 0, none⟩)] W fun e w' => e = .returned (.tuple #[]) ∧ GB h w0 w' (d || !u.callable) v L) := fun W hW => CX.out _ W d v L (HW.out.below hW) hta hbb
          clear hta CX hbw hcc hbb hd
          go_wp2_with (first | (go_at_call 80; ((with_reducible refine (CC.out _ (HZ2.out _)).mono ?_); rintro e W2 ⟨rfl, bb⟩; have BB := Lib.hid bb; clear bb)))
          go_roundg (l.length - (k + 1))
          case measure => have := HN2.out; omega
          case rel => exact ⟨k + 1, by omega, by go_num, rfl, by rw [HD2.out]; exact BB⟩
        · obtain rfl : k = l.length := by omega
          go_wp2
          go_end0
          exact ⟨rfl, by have h := HW.out; rw [List.take_length] at h; simpa using h⟩
theorem check_all (h : Nat) (w0 : World) (t : Tm) : CheckC h w0 t := by
  induction t using Tm.ind with
  | h4 s l ih => exact fun va wr b v L hB ht hs => check_step h w0 _ va wr b v L hB ht hs ih
  | _ => exact fun va wr b v L hB ht hs => check_step h w0 _ va wr b v L hB ht hs (by simp [Tm.args])
end Go.Proofs.Ytmffobadnmkpbaa
