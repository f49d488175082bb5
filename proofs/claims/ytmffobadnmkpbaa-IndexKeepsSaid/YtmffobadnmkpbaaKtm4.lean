/-
  A term made anew, its arguments appended one by one in a struct of the call's own: what stays. The place of a number in a list, walked.
  coneyref07.numbered, walked.
-/
import Derived.Test.YtmffobadnmkpbaaKtm2
import Derived.Test.YtmffobadnmkpbaaKtm3
import Derived.Test.YtmffobadnmkpbaaKpars6
import Derived.Deep.RegionLaw
import Derived.Deep.Cut
namespace Go.Proofs.Ytmffobadnmkpbaa
open Go.RowKit

/-- the struct that grows, and its arguments -/
structure NL (h : Nat) (w1 wr : World) (nm : ByteArray) (v : Value) (L : List (Tm × Value)) : Prop where
  own : OwnTs (fun b => h + 3 ≤ b) (h + 3) wr v L
  box : BoxL wr (h + 2) [.int .i64 4, .int .i64 0, .string nm, v]
  bel : Below (h + 2) w1 wr
  sz : h + 3 ≤ wr.heap.size
theorem NL.below {h : Nat} {w1 wr wr' : World} {nm : ByteArray} {v : Value} {L : List (Tm × Value)} (H : NL h w1 wr nm v L) (hb : Below wr.heap.size wr wr') : NL h w1 wr' nm v L :=
  ⟨H.own.below hb, H.box.block (hb.block _ (H.box.lt (by simp))), H.bel.trans (hb.mono (by have := H.sz; omega)), Nat.le_trans H.sz hb.size⟩
/-- behind the append: what the store finds -/
theorem NL.kept {h : Nat} {w1 wr w6 : World} {nm : ByteArray} {v : Value} {L : List (Tm × Value)} (H : NL h w1 wr nm v L) (hk : KeepsBut wr w6 v) : BoxL w6 (h + 2) [.int .i64 4, .int .i64 0, .string nm, v] :=
  H.box.kept (by simp) hk (own_ne H.own.own (by omega))
theorem NL.push {h : Nat} {w1 wr w6 : World} {nm : ByteArray} {v : Value} {L : List (Tm × Value)} {t : Tm} {a : Value} {g cap : Nat} (H : NL h w1 wr nm v L) (ht : TmAt (fun b => wr.heap.size ≤ b ∨ (v.ownBlock ≠ some b ∧ h + 3 ≤ b)) wr t a)
    (ho : w6.ownsRow (h + 3) 24 4 (.slice (some ⟨g, 0, none⟩) (L.length + 1) cap) (L.length + 1) (tmCs L ++ (#[.int .i64 t.kind, .int .i64 t.num, .string t.name, a] : Array Value).toList)) (hb : Below (h + 3) wr w6) (hk : KeepsBut wr w6 v) (hl : v.ownBlock = some g ∨ wr.heap.size ≤ g) :
    NL h w1 (w6.setCell ⟨h + 2, 3, none⟩ (.slice (some ⟨g, 0, none⟩) (L.length + 1) cap)) nm (.slice (some ⟨g, 0, none⟩) (L.length + 1) cap) (L ++ [(t, a)]) := by
  have hsz := H.sz
  have ht' : TmAt (fun b => v.ownBlock ≠ some b ∧ h + 3 ≤ b) wr t a := ht.mono fun b hb hp => ⟨by rcases hp with hp | hp; (· omega); (· exact hp), rfl⟩
  have o6 := H.own.push ht' ho hk hl
  refine ⟨⟨own_setCell o6.own (by simp) _, fun x hx => (o6.tms x hx).mono fun k _ hp => ⟨hp, Below.heap_setCell _ _ _ _ (by have := hp.2; simp; omega)⟩⟩, (H.kept hk).set 3 (by simp) _, (H.bel.trans (hb.mono (by omega))).setCell (p := ⟨h + 2, 3, none⟩) (by simp) _, by have := hb.size; simp; omega⟩
theorem OwnTs.tm {p : Nat → Prop} {base : Nat} {w : World} {v : Value} {L : List (Tm × Value)} (h : OwnTs p base w v L) (hp : ∀ b, p b → base ≤ b) (s : ByteArray) {l : List Tm} (hl : L.map Prod.fst = l) (h0 : 0 < l.length) : TmAt (fun b => base ≤ b) w (.cmp s l) v := by
  subst hl
  exact TmAt.of_ts (TsAt.of_sl (SlAt.of_own h.own) (fun b hb => (h.own.lt b hb).1) (fun x hx => (h.tms x hx).mono fun b _ hb => ⟨hp b hb.2, rfl⟩)) h0
theorem placeI_at {l : List Int} {n : Int} {k : Nat} (hk : k < l.length) (h1 : n ∉ l.take k) (h2 : l[k] = n) : placeI l n = k := by
  have e : l = l.take k ++ n :: l.drop (k + 1) := by rw [← h2, ← List.drop_eq_getElem_cons hk, List.take_append_drop]
  have h := placeI_new h1 (l.drop (k + 1))
  rw [← e, List.length_take] at h
  rw [h]; omega
theorem placeI_no {l : List Int} {n : Int} (h : n ∉ l) : placeI l n = -1 := by
  have h1 := placeI_ge l n
  have h2 : ¬ 0 ≤ placeI l n := fun hh => h (placeI_mem.1 hh)
  omega
set_option maxRecDepth 100000 in
theorem place_c (va : Value) (x : List Int) (n : Int) (w : World) (ha : IsAt w va x) (hl : x.length ≤ 1000000) :
    Calls Try.prog 111 #[va, .int .i64 n] w fun e w' => e = .returned (.int .i64 (placeI x n)) ∧ Below w.heap.size w w' := by
  obtain ⟨ao, cap, rfl, _⟩ := ha.shape
  have HA := Lib.hid ha
  clear ha
  go_enter Try.func111, Try.ntmps111
  go_wp2
  go_loopg [5] x.length (fun m s wr => ∃ k : Nat, k ≤ x.length ∧ s = .int .i64 k ∧ Hid (m = x.length - k) ∧ Hid (n ∉ x.take k) ∧ Hid (Below w.heap.size w wr))
  case atStart => exact ⟨0, by omega, rfl, rfl, Lib.hid (by simp), Below.refl _ _⟩
  case round =>
    obtain ⟨k, hk, rfl, HN, HE, HW⟩ := hrel
    by_cases hlt : k < x.length
    · obtain ⟨b1, o1, rfl, q1, q2, hc1⟩ := (HA.out.below HW.out).getR k hlt
      have HS : Hid (n ≠ x[k] → n ∉ x.take (k + 1)) := fun h => by
        rw [List.take_succ_eq_append_getElem hlt, List.mem_append]; exact fun h3 => h3.elim (fun h2 => HE.out h2) (fun h2 => h (by simpa using h2))
      have HM : Hid (x[k] = n → placeI x n = k) := fun h => placeI_at hlt HE.out h
      generalize x[k] = p at *
      by_cases hpq : p = n
      · have hb : (p == n) = true := by simp [hpq]
        have HM2 := Lib.hid (HM.out hpq)
        clear hpq HS HM
        go_wp2
        go_ret
        exact ⟨ret_int HM2.out.symm, HW.out⟩
      · have hb : (p == n) = false := by simp [hpq]
        have HS2 := Lib.hid (HS.out (fun e => hpq e.symm))
        clear hpq HS HM
        go_wp2
        go_roundg (x.length - (k + 1))
        case measure => have := HN.out; omega
        case rel => exact ⟨k + 1, by omega, by go_num, rfl, HS2, HW.out⟩
    · obtain rfl : k = x.length := by omega
      have HT : Hid (placeI x n = -1) := placeI_no (by have h := HE.out; rw [List.take_length] at h; exact h)
      go_wp2
      go_ret
      exact ⟨ret_int HT.out.symm, HW.out⟩
end Go.Proofs.Ytmffobadnmkpbaa
namespace Go.Proofs.Ytmffobadnmkpbaa
open Go.RowKit

/-- what makes a term anew tells -/
def RetTm7 (G : Tm) (w : World) (e : Ending) (w' : World) : Prop := ∃ ao cap, e = .returned (.agg #[.int .i64 G.kind, .int .i64 G.num, .string G.name, .slice ao G.args.length cap]) ∧ TmAt (fun b => w.heap.size ≤ b) w' G (.slice ao G.args.length cap) ∧ Below w.heap.size w w'
theorem news_al (w : World) (cs : Array Value) (T : TypeId) : ∀ j u, cs.toList[j]? = some u → (w.alloc (.cells cs T)).cell? ⟨w.heap.size, j, none⟩ = some u := fun j u hj => by simpa using hj
theorem post_gen7 {P : Program} {f : Func} {Q : Ending → World → Prop} {a : Act} {W' : World} (h : ∀ W9, W9 = W' → bodyPost P f Q Exit.ret a W9) : bodyPost P f Q Exit.ret a W' := h _ rfl
theorem box4c {W : World} {b : Nat} {x0 x1 x2 x3 : Value} (h : BoxL W b [x0, x1, x2, x3]) : (W.cell? ⟨b, 0, none⟩ = some x0 ∧ W.cell? ⟨b, 1, none⟩ = some x1 ∧ W.cell? ⟨b, 2, none⟩ = some x2 ∧ W.cell? ⟨b, 3, none⟩ = some x3) ∧ (W.frozen? ⟨b, 0, none⟩ = false ∧ W.frozen? ⟨b, 1, none⟩ = false ∧ W.frozen? ⟨b, 2, none⟩ = false ∧ W.frozen? ⟨b, 3, none⟩ = false) := ⟨⟨(h.get 0 rfl).1, (h.get 1 rfl).1, (h.get 2 rfl).1, (h.get 3 rfl).1⟩, (h.get 0 rfl).2, (h.get 1 rfl).2, (h.get 2 rfl).2, (h.get 3 rfl).2⟩
theorem box4set {W : World} {b : Nat} {x0 x1 x2 x3 : Value} (h : BoxL W b [x0, x1, x2, x3]) (y0 y1 y2 y3 : Value) : BoxL ((((W.setCell ⟨b, 0, none⟩ y0).setCell ⟨b, 1, none⟩ y1).setCell ⟨b, 2, none⟩ y2).setCell ⟨b, 3, none⟩ y3) b [y0, y1, y2, y3] :=
  (((h.set 0 (by simp) y0).set 1 (by simp) y1).set 2 (by simp) y2).set 3 (by simp) y3
theorem below4 {B : Nat} {w W : World} (h : Below B w W) {c : Nat} (hc : B ≤ c) (y0 y1 y2 y3 : Value) : Below B w ((((W.setCell ⟨c, 0, none⟩ y0).setCell ⟨c, 1, none⟩ y1).setCell ⟨c, 2, none⟩ y2).setCell ⟨c, 3, none⟩ y3) :=
  (((h.setCell (p := ⟨c, 0, none⟩) hc _).setCell (p := ⟨c, 1, none⟩) hc _).setCell (p := ⟨c, 2, none⟩) hc _).setCell (p := ⟨c, 3, none⟩) hc _
/-- the result's box stored: what is told -/
structure Res4 (w W9 : World) (G : Tm) (a : Value) : Prop where
  box : BoxL W9 (w.heap.size + 1) [.int .i64 G.kind, .int .i64 G.num, .string G.name, a]
  at' : TmAt (fun b => w.heap.size ≤ b) W9 G a
  bel : Below w.heap.size w W9
theorem Res4.mk' {w W W9 : World} {x0 x1 x2 x3 : Value} (hx : BoxL W (w.heap.size + 1) [x0, x1, x2, x3]) (hb : Below w.heap.size w W) {G : Tm} {a : Value} (ht : TmAt (fun b => w.heap.size + 2 ≤ b) W G a)
    (h9 : W9 = ((((W.setCell ⟨w.heap.size + 1, 0, none⟩ (.int .i64 G.kind)).setCell ⟨w.heap.size + 1, 1, none⟩ (.int .i64 G.num)).setCell ⟨w.heap.size + 1, 2, none⟩ (.string G.name)).setCell ⟨w.heap.size + 1, 3, none⟩ a)) : Res4 w W9 G a := by
  subst h9
  exact ⟨box4set hx _ _ _ _, ht.mono fun b _ hp => ⟨by omega, heap_set4 _ _ _ _ _ _ (by omega)⟩, below4 hb (by omega) _ _ _ _⟩

theorem numTs_append (L : List Int) (a b : List Tm) : numTs L (a ++ b) = numTs L a ++ numTs L b := by
  induction a with
  | nil => rfl
  | cons t l ih => simp [numTs, ih]
theorem tg_push {h : Nat} {w1 wr W2 : World} {nm : ByteArray} {v : Value} {Q : List (Tm × Value)} {G : Tm} {a : Value} {o : Obj} (H : NL h w1 wr nm v Q) (tg : TmAt (fun b => wr.heap.size ≤ b) W2 G a) : TmAt (fun b => (W2.alloc o).heap.size ≤ b ∨ (v.ownBlock ≠ some b ∧ h + 3 ≤ b)) (W2.alloc o) G a :=
  tg.mono fun b hb hp => ⟨.inr ⟨own_far H.own.own hp, by have := H.sz; omega⟩, Below.heap_alloc _ _ b hb⟩
def NumC (L : List Int) (t : Tm) : Prop := ∀ (va lv : Value) (w : World), TmAt (fun _ => True) w t va → IsAt w lv L → t.ok → (∀ x ∈ t.vs, x ∈ L) → t.size ≤ 1000000 → Calls Try.prog 76 #[tmV t va, lv] w (RetTm7 (numT L t) w)
set_option maxRecDepth 100000 in
set_option maxHeartbeats 6400000 in
theorem num_step (L : List Int) (hL : L.length ≤ 1000000) (t : Tm) (va lv : Value) (w : World) (ht : TmAt (fun _ => True) w t va) (hl : IsAt w lv L) (hok : t.ok) (hv : ∀ x ∈ t.vs, x ∈ L) (hn : t.size ≤ 1000000) (hC : ∀ u ∈ t.args, NumC L u) :
    Calls Try.prog 76 #[tmV t va, lv] w (RetTm7 (numT L t) w) := by
  have h4 := fun h => ht.nil_of h
  obtain ⟨ao, cc, rfl, hc1, hc2⟩ := ht.shape
  obtain ⟨lo, lc, rfl, hlc, _⟩ := hl.shape
  obtain ⟨i0, hi, hz0, hz1, hz2⟩ := info_parts Try.infoTerm
  have al : ∀ (W : World) (o : Obj) (B : Nat), B ≤ W.heap.size → Below B W (W.alloc o) := fun W o B h => (Below.refl B W).alloc h o
  have AL := Lib.hid al
  have HLI := Lib.hid hl
  obtain ⟨V, hV⟩ : ∃ V, V = ((w.alloc (.cells #[.int .i64 t.kind, .int .i64 t.num, .string t.name, .slice ao t.args.length cc] 24)).alloc (.cells #[.int .i64 0, .int .i64 0, .string ⟨#[]⟩, .slice none 0 0] 24)) := ⟨_, rfl⟩
  have BV : Hid (Below w.heap.size w V) := by rw [hV]; exact (al _ _ _ (Nat.le_refl _)).trans (al _ _ _ (by simp))
  have hsV : V.heap.size = w.heap.size + 2 := by rw [hV]; simp
  have XV : Hid (BoxL V w.heap.size [.int .i64 t.kind, .int .i64 t.num, .string t.name, .slice ao t.args.length cc]) := by rw [hV]; exact (BoxL.mk' w #[.int .i64 t.kind, .int .i64 t.num, .string t.name, .slice ao t.args.length cc] 24).below (al _ _ (w.heap.size + 1) (by simp)) (by omega)
  have ZV : Hid (BoxL V (w.heap.size + 1) [.int .i64 0, .int .i64 0, .string ⟨#[]⟩, .slice none 0 0]) := by
    rw [hV]
    have h := BoxL.mk' (w.alloc (.cells #[.int .i64 t.kind, .int .i64 t.num, .string t.name, .slice ao t.args.length cc] 24)) #[.int .i64 0, .int .i64 0, .string ⟨#[]⟩, .slice none 0 0] 24
    simp only [World.size_alloc] at h
    exact h
  have HS := Lib.hid hsV
  obtain ⟨⟨x0, x1, x2, x3⟩, _⟩ := box4c XV.out
  obtain ⟨⟨z0, z1, z2, z3⟩, f0, f1, f2, f3⟩ := box4c ZV.out
  by_cases hk : t.kind = 1
  · obtain ⟨n, rfl, hn5⟩ := Tm.ok_var hok hk
    have hnL : (n : Int) ∈ L := hv n (by simp [Tm.vs])
    have hp0 := placeI_mem.2 hnL
    obtain ⟨q, hq⟩ : ∃ q : Nat, placeI L n = q := ⟨(placeI L n).toNat, by omega⟩
    have hqn : (placeI L n).toNat = q := by rw [hq]; rfl
    have CP : Hid (∀ W, Below w.heap.size w W → Calls Try.prog 111 #[.slice lo L.length lc, .int .i64 n] W fun e w' => e = .returned (.int .i64 (q : Int)) ∧ Below W.heap.size W w') := fun W h => by
      have h := place_c _ L n W (hl.below h) hL
      rw [hq] at h; exact h
    have he := h4 (by simp [Tm.kind])
    simp only [Value.slice.injEq, Tm.args, List.length_nil] at he
    obtain ⟨rfl, -, rfl⟩ := he
    have hG : numT L (.var n) = .var q := by simp only [numT, hqn]
    rw [hG]
    change Calls _ _ #[.agg #[.int .i64 1, .int .i64 n, .string ByteArray.empty, .slice none 0 0], _] _ (RetTm7 (.var q) w)
    have x0' : V.cell? ⟨w.heap.size, 0, none⟩ = some (.int .i64 1) := x0
    have x1' : V.cell? ⟨w.heap.size, 1, none⟩ = some (.int .i64 n) := x1
    have hV' : V = ((w.alloc (.cells #[.int .i64 1, .int .i64 n, .string ByteArray.empty, .slice none 0 0] 24)).alloc (.cells #[.int .i64 0, .int .i64 0, .string ⟨#[]⟩, .slice none 0 0] 24)) := hV
    clear ht hl hok hv hn hC h4 hk hc1 hc2 hV hsV hnL hp0 hq hqn hG x0 x1 x2 x3 al
    go_enter Try.func76, Try.ntmps76
    go_upto_region 1 with (fail)
    rw [← hV']
    clear hV'
    go_wp2_with (first | (go_at_call 111; ((with_reducible refine (CP.out _ BV.out).mono ?_); rintro e W2 ⟨rfl, bb⟩; have Z2 := Lib.hid (ZV.out.block (bb.block _ (by have := HS.out; omega))); have B2 := Lib.hid (BV.out.trans (bb.mono BV.out.size)); clear z0 z1 z2 z3 f0 f1 f2 f3; obtain ⟨⟨z0, z1, z2, z3⟩, f0, f1, f2, f3⟩ := box4c Z2.out; clear bb)))
    refine post_gen7 fun W9 hW9 => ?_
    have hr := Res4.mk' (W9 := W9) (G := .var q) (a := .slice none 0 0) Z2.out B2.out (.leaf rfl) hW9
    clear z0 z1 z2 z3 f0 f1 f2 f3
    obtain ⟨⟨z0, z1, z2, z3⟩, -⟩ := box4c hr.box
    simp only [Tm.kind, Tm.num, Tm.name] at z0 z1 z2
    refine bodyPost_ret (v := .agg #[.int .i64 1, .int .i64 q, .string ByteArray.empty, .slice none 0 0]) (by simp [results, Try.results76, go_sem, z0, z1, z2, z3]; try rfl) rfl ?_
    exact ⟨none, 0, rfl, hr.at', hr.bel⟩
  · have hkb : (t.kind == 1) = false := by simpa using hk
    by_cases hk4 : t.kind = 4
    · obtain ⟨s, l, rfl⟩ : ∃ s l, t = .cmp s l := by cases t <;> simp [Tm.kind] at hk4; exact ⟨_, _, rfl⟩
      have hl0 : 0 < l.length := by cases hok; assumption
      have HT := Lib.hid (TsAt.of_tm ht)
      have HC := Lib.hid hC
      have HOK := Lib.hid (Tm.ok_args hok)
      have HVS : Hid (∀ u ∈ l, ∀ x ∈ u.vs, x ∈ L) := fun u hu x hx => hv x (by
        obtain ⟨i, hi, rfl⟩ := List.getElem_of_mem hu
        have h1 := Tm.vss_take l i hi
        have h2 : Tm.vss l = Tm.vss (l.take (i + 1)) ++ Tm.vss (l.drop (i + 1)) := by rw [← Tm.vss_append, List.take_append_drop]
        simp only [Tm.vs]
        rw [h2, h1]; simp [hx])
      have HSZ : Hid (∀ u ∈ l, u.size ≤ 1000000) := fun u hu => by have := Tm.args_size (t := .cmp s l) (u := u) hu; omega
      have hll : l.length ≤ 1000000 := by have h1 := Tm.sizes_len l; simp only [Tm.size] at hn; omega
      simp only [Tm.args] at HT HC HOK
      rw [show numT L (.cmp s l) = .cmp s (numTs L l) from by simp only [numT]]
      change Calls _ _ #[.agg #[.int .i64 4, .int .i64 0, .string s, .slice ao l.length cc], _] _ _
      have XV' : Hid (BoxL V w.heap.size [.int .i64 4, .int .i64 0, .string s, .slice ao l.length cc]) := XV
      have hV' : V = ((w.alloc (.cells #[.int .i64 4, .int .i64 0, .string s, .slice ao l.length cc] 24)).alloc (.cells #[.int .i64 0, .int .i64 0, .string ⟨#[]⟩, .slice none 0 0] 24)) := hV
      clear x0 x1 x2 x3
      obtain ⟨⟨x0, x1, x2, x3⟩, _⟩ := box4c XV'.out
      have N0 : Hid (NL w.heap.size V (V.alloc (.cells #[.int .i64 4, .int .i64 0, .string s, .slice none 0 0] 24)) s (.slice none 0 0) []) := by
        have hb := BoxL.mk' V #[.int .i64 4, .int .i64 0, .string s, .slice none 0 0] 24
        rw [hsV] at hb
        exact ⟨OwnTs.none _ _ _, hb, AL.out _ _ _ (by omega), by simp [hsV]⟩
      have hk1 : ((4 : Int) == 1) = false := rfl
      clear ht hl hok hv hn hC h4 hk hk4 hkb hc1 hc2 hV XV al
      go_enter Try.func76, Try.ntmps76
      go_upto_region 1 with (fail)
      rw [← hV']
      clear hV'
      go_upto_region 6 with (fail)
      clear hsV x0 x1 x2 x3 z0 z1 z2 z3 f0 f1 f2 f3
      go_wp2
      go_loopg [6] l.length (fun n i wr => ∃ (k : Nat) (v : Value) (Q : List (Tm × Value)), k ≤ l.length ∧ i = .int .i64 k ∧ Hid (n = l.length - k) ∧ Hid (NL w.heap.size V wr s v Q) ∧ Hid (Q.map Prod.fst = numTs L (l.take k)))
      case atStart => exact ⟨0, _, [], by omega, rfl, rfl, N0, Lib.hid rfl⟩
      case round =>
        obtain ⟨k, v, Q, hk, rfl, HN, HW, HQ⟩ := hrel
        have HBw : Hid (Below w.heap.size w wr) := BV.out.trans (HW.out.bel.mono (by omega))
        have hXw := XV'.out.block (HW.out.bel.block _ (by omega))
        obtain ⟨⟨x0, x1, x2, x3⟩, _⟩ := box4c hXw
        obtain ⟨va, vc, rfl, hvc, _⟩ := HW.out.own.shape
        have hQb : Q.length ≤ 1000000 := by have := congrArg List.length HQ.out; simp only [List.length_map, numTs_len, List.length_take] at this; omega
        obtain ⟨⟨y0, y1, y2, y3⟩, g0, g1, g2, g3⟩ := box4c HW.out.box
        have hwz := HW.out.sz
        by_cases hlt : k < l.length
        · have hki : (k : Int) < l.length := by omega
          obtain ⟨b, off, a1, rfl, -, hcc, hta⟩ := (HT.out.later HBw.out).get k hlt
          obtain ⟨p1, q1, rfl, _⟩ := hta.shape
          have hbl := hcc.lt
          have CX := Lib.hid (HC.out l[k] (List.getElem_mem hlt))
          have hou := HOK.out l[k] (List.getElem_mem hlt)
          have hvu := HVS.out l[k] (List.getElem_mem hlt)
          have hsu := HSZ.out l[k] (List.getElem_mem hlt)
          have HQ2 : Hid (∀ q, (Q ++ [(numT L l[k], q)]).map Prod.fst = numTs L (l.take (k + 1))) := fun q => by rw [List.map_append, HQ.out, List.take_succ_eq_append_getElem hlt, numTs_append]; rfl
          generalize l[k] = u at *
          obtain ⟨c0, c1, c2, c3⟩ := hcc
          have CC : Hid (∀ W, Below wr.heap.size wr W → Calls Try.prog 76 #[.agg #[.int .i64 u.kind, .int .i64 u.num, .string u.name, .slice p1 u.args.length q1], .slice lo L.length lc] W fun e w' => ∃ pa qa, e = .returned (.agg #[.int .i64 (numT L u).kind, .int .i64 (numT L u).num, .string (numT L u).name, .slice pa (numT L u).args.length qa]) ∧ TmAt (fun b => wr.heap.size ≤ b) w' (numT L u) (.slice pa (numT L u).args.length qa) ∧ Below wr.heap.size wr w') := fun W h =>
            (CX.out _ _ W (hta.later h) (HLI.out.below (HBw.out.trans (h.mono HBw.out.size))) hou hvu hsu).mono fun e w' ⟨pa, qa, h1, h2, h3⟩ => ⟨pa, qa, h1, h2.mono fun b _ hp => ⟨Nat.le_trans h.size hp, rfl⟩, h.trans (h3.mono h.size)⟩
          generalize numT L u = G at *
          have hbw2 : w.heap.size + 2 < wr.heap.size := by omega
          have hbw0 : w.heap.size < wr.heap.size := by omega
          clear hta CX hou hvu hsu hXw
          go_upto_region 9 with (fail)
          go_region_law
            (first
              | (refine step_appendX rfl (.tmp 30) (.tmp 38) 22 rfl (w.heap.size + 3) 24 i0 (.agg #[.int .i64 0, .int .i64 0, .string ByteArray.empty, .slice none 0 0]) 4 56 Try.underlying22 hi hz0 hz1 hz2 rfl (by decide) _ Q.length (tmCs Q) rfl N3.out.own.own (#[.int .i64 G.kind, .int .i64 G.num, .string G.name, .slice pa G.args.length qa] : Array Value).toList _ rfl ?_ rfl ?_ ⟨by omega, by omega⟩ N3.out.sz ?_; (· exact news_al _ _ _); (· exact one4r rfl rfl rfl rfl); intro gg cap w6 ho6 hb6 hk6 hl6; have N6 := Lib.hid (N3.out.push TG.out ho6 hb6 hk6 hl6); have B6 := Lib.hid (N3.out.kept hk6); clear y0 y1 y2 y3 g0 g1 g2 g3; obtain ⟨⟨y0, y1, y2, y3⟩, g0, g1, g2, g3⟩ := box4c B6.out; clear ho6 hb6 hk6 hl6)
              | (go_simp; go_at_call 76; ((with_reducible refine (CC.out _ ?_).mono ?_); (· go_grown); rintro e W2 ⟨pa, qa, rfl, tg, bb⟩; have N2 := Lib.hid (HW.out.below bb); have N3 := Lib.hid (N2.out.below (AL.out W2 (.cells #[.int .i64 G.kind, .int .i64 G.num, .string G.name, .slice pa G.args.length qa] 24) _ (Nat.le_refl _))); have TG := Lib.hid (tg_push (o := (.cells #[.int .i64 G.kind, .int .i64 G.num, .string G.name, .slice pa G.args.length qa] 24)) HW.out tg); clear y0 y1 y2 y3 g0 g1 g2 g3; obtain ⟨⟨y0, y1, y2, y3⟩, g0, g1, g2, g3⟩ := box4c N2.out.box; have hbw2' : w.heap.size + 2 < W2.heap.size := Nat.lt_of_lt_of_le hbw2 bb.size; clear bb tg)))
          all_goals
            go_wp2
            go_roundg (l.length - (k + 1))
            case measure => have := HN.out; omega
            case rel => exact ⟨k + 1, _, _, by omega, by go_num, rfl, N6, HQ2.out _⟩
        · obtain rfl : k = l.length := by omega
          have HQ3 : Hid (Q.map Prod.fst = numTs L l) := by have h := HQ.out; rw [List.take_length] at h; exact h
          have HQE : Hid (Q.length = (Tm.cmp s (numTs L l)).args.length) := by show _ = _; have h := congrArg List.length HQ3.out; simpa [Tm.args] using h
          have ZX := Lib.hid (ZV.out.block (HW.out.bel.block _ (by omega)))
          obtain ⟨⟨z0, z1, z2, z3⟩, f0, f1, f2, f3⟩ := box4c ZX.out
          go_wp2
          refine post_gen7 fun W9 hW9 => ?_
          have hat : TmAt (fun b => w.heap.size + 2 ≤ b) wr (.cmp s (numTs L l)) (.slice va Q.length vc) := (HW.out.own.tm (fun _ h => h) s HQ3.out (by rw [numTs_len]; exact hl0)).mono fun b _ hp => ⟨by omega, rfl⟩
          have hr := Res4.mk' (W9 := W9) (G := .cmp s (numTs L l)) (a := .slice va Q.length vc) ZX.out HBw.out hat hW9
          clear z0 z1 z2 z3 f0 f1 f2 f3 y0 y1 y2 y3 g0 g1 g2 g3
          obtain ⟨⟨z0, z1, z2, z3⟩, -⟩ := box4c hr.box
          simp only [Tm.kind, Tm.num, Tm.name] at z0 z1 z2
          refine bodyPost_ret (v := .agg #[.int .i64 4, .int .i64 0, .string s, .slice va Q.length vc]) (by simp [results, Try.results76, go_sem, z0, z1, z2, z3]; try rfl) rfl ?_
          have h9 := hr.at'
          rw [HQE.out] at h9
          exact ⟨va, vc, congrArg (fun n => Ending.returned (.agg #[.int .i64 4, .int .i64 0, .string s, .slice va n vc])) HQE.out, h9, hr.bel⟩
    · have hk4b : (t.kind != 4) = true := by simpa using hk4
      have hG : numT L t = t := by cases t <;> simp [Tm.kind] at hk hk4 <;> simp [numT]
      rw [hG]
      have hlf : t.args = [] := Tm.args_kind hk4
      have HLF := Lib.hid hlf
      have he := h4 hk4
      simp only [Value.slice.injEq] at he
      obtain ⟨rfl, -, rfl⟩ := he
      have hl0 : t.args.length = 0 := by rw [hlf]; rfl
      unfold tmV
      clear ht hl hok hv hn hC h4 hk hk4 hc1 hc2 hG hlf al
      generalize hz : t.args.length = z at *
      subst hl0
      go_enter Try.func76, Try.ntmps76
      go_upto_region 1 with (fail)
      rw [← hV]
      clear hV hsV
      go_wp2
      refine post_gen7 fun W9 hW9 => ?_
      have hr := Res4.mk' (W9 := W9) (G := t) (a := .slice none 0 0) ZV.out BV.out (.leaf HLF.out) hW9
      clear z0 z1 z2 z3 f0 f1 f2 f3
      obtain ⟨⟨z0, z1, z2, z3⟩, -⟩ := box4c hr.box
      refine bodyPost_ret (v := .agg #[.int .i64 t.kind, .int .i64 t.num, .string t.name, .slice none 0 0]) (by simp [results, Try.results76, go_sem, z0, z1, z2, z3]; try rfl) rfl ?_
      have h9 := hr.at'
      exact ⟨none, 0, by rw [hz], by rw [hz]; exact h9, hr.bel⟩
theorem num_all (L : List Int) (hL : L.length ≤ 1000000) (t : Tm) : NumC L t := by
  induction t using Tm.ind with
  | h4 s l ih => exact fun va lv w ht hl hok hv hn => num_step L hL _ va lv w ht hl hok hv hn ih
  | _ => exact fun va lv w ht hl hok hv hn => num_step L hL _ va lv w ht hl hok hv hn (by simp [Tm.args])
end Go.Proofs.Ytmffobadnmkpbaa
