/-
  coneyref07.Subst, walked. Printed by genmpe.py.
  term.Depth, walked.
  coneyref07.Depth, walked.
  The law TermSizes, walked.
  coneylaw07.same and sames: they say yes to equal terms. Walked.
-/
import Derived.Test.YtmffobadnmkpbaaKtmc5
import Derived.Test.YtmffobadnmkpbaaKtmc2
import Derived.Test.YtmffobadnmkpbaaKtmc3
import Derived.Deep.RegionHeld3
import Derived.Test.YtmffobadnmkpbaaKtmc1
import Derived.Deep.Cut
import Derived.Handy
namespace Go.Proofs.Ytmffobadnmkpbaa
open Go.RowKit

def RetTmB (B : Nat) (G : Tm) (w : World) (e : Ending) (w' : World) : Prop := ∃ ao cap, e = .returned (.agg #[.int .i64 G.kind, .int .i64 G.num, .string G.name, .slice ao G.args.length cap]) ∧ TmAt (fun b => b < B ∨ w.heap.size ≤ b) w' G (.slice ao G.args.length cap) ∧ Below w.heap.size w w'
structure NB (B h : Nat) (w1 wr : World) (nm : ByteArray) (v : Value) (L : List (Tm × Value)) : Prop where
  own : OwnTs (fun b => b < B ∨ h + 3 ≤ b) (h + 3) wr v L
  box : BoxL wr (h + 2) [.int .i64 4, .int .i64 0, .string nm, v]
  bel : Below (h + 2) w1 wr
  sz : h + 3 ≤ wr.heap.size
  hB : B ≤ h
theorem NB.below {B h : Nat} {w1 wr wr' : World} {nm : ByteArray} {v : Value} {L : List (Tm × Value)} (H : NB B h w1 wr nm v L) (hb : Below wr.heap.size wr wr') : NB B h w1 wr' nm v L :=
  ⟨H.own.below hb, H.box.block (hb.block _ (H.box.lt (by simp))), H.bel.trans (hb.mono (by have := H.sz; omega)), Nat.le_trans H.sz hb.size, H.hB⟩
theorem NB.kept {B h : Nat} {w1 wr w6 : World} {nm : ByteArray} {v : Value} {L : List (Tm × Value)} (H : NB B h w1 wr nm v L) (hk : KeepsBut wr w6 v) : BoxL w6 (h + 2) [.int .i64 4, .int .i64 0, .string nm, v] :=
  H.box.kept (by simp) hk (own_ne H.own.own (by omega))
theorem NB.push {B h : Nat} {w1 wr w6 : World} {nm : ByteArray} {v : Value} {L : List (Tm × Value)} {t : Tm} {a : Value} {g cap : Nat} (H : NB B h w1 wr nm v L) (ht : TmAt (fun b => wr.heap.size ≤ b ∨ (v.ownBlock ≠ some b ∧ (b < B ∨ h + 3 ≤ b))) wr t a)
    (ho : w6.ownsRow (h + 3) 24 4 (.slice (some ⟨g, 0, none⟩) (L.length + 1) cap) (L.length + 1) (tmCs L ++ (#[.int .i64 t.kind, .int .i64 t.num, .string t.name, a] : Array Value).toList)) (hb : Below (h + 3) wr w6) (hk : KeepsBut wr w6 v) (hl : v.ownBlock = some g ∨ wr.heap.size ≤ g) :
    NB B h w1 (w6.setCell ⟨h + 2, 3, none⟩ (.slice (some ⟨g, 0, none⟩) (L.length + 1) cap)) nm (.slice (some ⟨g, 0, none⟩) (L.length + 1) cap) (L ++ [(t, a)]) := by
  have hsz := H.sz
  have hB := H.hB
  have ht' : TmAt (fun b => v.ownBlock ≠ some b ∧ (b < B ∨ h + 3 ≤ b)) wr t a := ht.mono fun b hb hp => ⟨by rcases hp with hp | hp; (· omega); (· exact hp), rfl⟩
  have o6 := H.own.push ht' ho hk hl
  refine ⟨⟨own_setCell o6.own (by simp) _, fun x hx => (o6.tms x hx).mono fun k _ hp => ⟨hp, Below.heap_setCell _ _ _ _ (by have := hp.2; simp; omega)⟩⟩, (H.kept hk).set 3 (by simp) _, (H.bel.trans (hb.mono (by omega))).setCell (p := ⟨h + 2, 3, none⟩) (by simp) _, by have := hb.size; simp; omega, hB⟩
theorem NB.tm {B h : Nat} {w1 wr : World} {nm : ByteArray} {v : Value} {L : List (Tm × Value)} (H : NB B h w1 wr nm v L) (s : ByteArray) {l : List Tm} (hl : L.map Prod.fst = l) (h0 : 0 < l.length) : TmAt (fun b => b < B ∨ h + 3 ≤ b) wr (.cmp s l) v := by
  subst hl
  exact TmAt.of_ts (TsAt.of_sl (SlAt.of_own H.own.own) (fun b hb => .inr (H.own.own.lt b hb).1) (fun x hx => (H.own.tms x hx).mono fun b _ hb => ⟨hb.2, rfl⟩)) h0
structure ResB (B : Nat) (w W9 : World) (G : Tm) (a : Value) : Prop where
  box : BoxL W9 (w.heap.size + 1) [.int .i64 G.kind, .int .i64 G.num, .string G.name, a]
  at' : TmAt (fun b => b < B ∨ w.heap.size ≤ b) W9 G a
  bel : Below w.heap.size w W9
theorem ResB.mk' {B : Nat} {w W W9 : World} (hB : B ≤ w.heap.size) {x0 x1 x2 x3 : Value} (hx : BoxL W (w.heap.size + 1) [x0, x1, x2, x3]) (hb : Below w.heap.size w W) {G : Tm} {a : Value} (ht : TmAt (fun b => b < B ∨ w.heap.size + 2 ≤ b) W G a)
    (h9 : W9 = ((((W.setCell ⟨w.heap.size + 1, 0, none⟩ (.int .i64 G.kind)).setCell ⟨w.heap.size + 1, 1, none⟩ (.int .i64 G.num)).setCell ⟨w.heap.size + 1, 2, none⟩ (.string G.name)).setCell ⟨w.heap.size + 1, 3, none⟩ a)) : ResB B w W9 G a := by
  subst h9
  exact ⟨box4set hx _ _ _ _, ht.mono fun b _ hp => ⟨by omega, heap_set4 _ _ _ _ _ _ (by omega)⟩, below4 hb (by omega) _ _ _ _⟩
theorem tgB_push {B h : Nat} {w1 wr W2 : World} {nm : ByteArray} {v : Value} {Q : List (Tm × Value)} {G : Tm} {a : Value} {o : Obj} (H : NB B h w1 wr nm v Q) (tg : TmAt (fun b => b < B ∨ wr.heap.size ≤ b) W2 G a) : TmAt (fun b => (W2.alloc o).heap.size ≤ b ∨ (v.ownBlock ≠ some b ∧ (b < B ∨ h + 3 ≤ b))) (W2.alloc o) G a :=
  tg.mono fun b hb hp => ⟨.inr (by
    rcases hp with hp | hp
    · exact ⟨own_ne H.own.own (by have := H.hB; omega), .inl hp⟩
    · exact ⟨own_far H.own.own hp, .inr (by have := H.sz; omega)⟩), Below.heap_alloc _ _ b hb⟩
theorem mapTs_append (σ : Nat → Tm) (a b : List Tm) : mapTs σ (a ++ b) = mapTs σ a ++ mapTs σ b := by simp [mapTs_eq]
theorem mapTs_len (σ : Nat → Tm) (l : List Tm) : (mapTs σ l).length = l.length := by simp [mapTs_eq]
def RSubC (B : Nat) (L : List Tm) (t : Tm) : Prop := ∀ (va lv : Value) (w : World), B ≤ w.heap.size → TmAt (fun _ => True) w t va → TsAt (fun b => b < B) w lv L → t.ok → t.size ≤ 1000000 → Calls Try.prog 27 #[tmV t va, lv] w (RetTmB B (mapT (sigL L) t) w)
set_option maxRecDepth 100000 in
set_option maxHeartbeats 6400000 in
theorem rsub_step (B : Nat) (L : List Tm) (t : Tm) (va lv : Value) (w : World) (hB : B ≤ w.heap.size) (ht : TmAt (fun _ => True) w t va) (hl : TsAt (fun b => b < B) w lv L) (hok : t.ok) (hn : t.size ≤ 1000000) (hC : ∀ u ∈ t.args, RSubC B L u) :
    Calls Try.prog 27 #[tmV t va, lv] w (RetTmB B (mapT (sigL L) t) w) := by
  have h4 := fun h => ht.nil_of h
  obtain ⟨ao, cc, rfl, hc1, hc2⟩ := ht.shape
  obtain ⟨lo, lc, rfl, hlc, _⟩ := hl.shape
  obtain ⟨i0, hi, hz0, hz1, hz2⟩ := info_parts Try.infoTerm
  have al : ∀ (W : World) (o : Obj) (B : Nat), B ≤ W.heap.size → Below B W (W.alloc o) := fun W o B h => (Below.refl B W).alloc h o
  have AL := Lib.hid al
  have HLI := Lib.hid hl
  have HB0 := Lib.hid hB
  obtain ⟨V, hV⟩ : ∃ V, V = ((w.alloc (.cells #[.int .i64 t.kind, .int .i64 t.num, .string t.name, .slice ao t.args.length cc] 24)).alloc (.cells #[.int .i64 0, .int .i64 0, .string ⟨#[]⟩, .slice none 0 0] 24)) := ⟨_, rfl⟩
  have BV : Hid (Below w.heap.size w V) := by rw [hV]; exact (al _ _ _ (Nat.le_refl _)).trans (al _ _ _ (by simp))
  have hsV : V.heap.size = w.heap.size + 2 := by rw [hV]; simp
  have XV : Hid (BoxL V w.heap.size [.int .i64 t.kind, .int .i64 t.num, .string t.name, .slice ao t.args.length cc]) := by rw [hV]; exact (BoxL.mk' w #[.int .i64 t.kind, .int .i64 t.num, .string t.name, .slice ao t.args.length cc] 24).below (al _ _ (w.heap.size + 1) (by simp)) (by omega)
  have ZV : Hid (BoxL V (w.heap.size + 1) [.int .i64 0, .int .i64 0, .string ⟨#[]⟩, .slice none 0 0]) := by
    rw [hV]
    have h := BoxL.mk' (w.alloc (.cells #[.int .i64 t.kind, .int .i64 t.num, .string t.name, .slice ao t.args.length cc] 24)) #[.int .i64 0, .int .i64 0, .string ⟨#[]⟩, .slice none 0 0] 24
    simp only [World.size_alloc] at h
    exact h
  have HS := Lib.hid hsV
  obtain ⟨⟨x0, x1, x2, x3⟩, _⟩ := box4c XV.out
  obtain ⟨⟨z0, z1, z2, z3⟩, f0, f1, f2, f3⟩ := box4c ZV.out
  by_cases hk : t.kind = 1
  · obtain ⟨n, rfl, hn5⟩ := Tm.ok_var hok hk
    have he := h4 (by simp [Tm.kind])
    simp only [Value.slice.injEq, Tm.args, List.length_nil] at he
    obtain ⟨rfl, -, rfl⟩ := he
    rw [show mapT (sigL L) (.var n) = sigL L n from by simp only [mapT]]
    have x0' : V.cell? ⟨w.heap.size, 0, none⟩ = some (.int .i64 1) := x0
    have x1' : V.cell? ⟨w.heap.size, 1, none⟩ = some (.int .i64 n) := x1
    have x2' : V.cell? ⟨w.heap.size, 2, none⟩ = some (.string ByteArray.empty) := x2
    have x3' : V.cell? ⟨w.heap.size, 3, none⟩ = some (.slice none 0 0) := x3
    have hV' : V = ((w.alloc (.cells #[.int .i64 1, .int .i64 n, .string ByteArray.empty, .slice none 0 0] 24)).alloc (.cells #[.int .i64 0, .int .i64 0, .string ⟨#[]⟩, .slice none 0 0] 24)) := hV
    change Calls _ _ #[.agg #[.int .i64 1, .int .i64 n, .string ByteArray.empty, .slice none 0 0], _] _ _
    have LV : TsAt (fun b => b < B) V (.slice lo L.length lc) L := hl.grow BV.out fun _ _ h => h
    clear ht hl hok hn hC h4 hk hc1 hc2 hV hsV x0 x1 x2 x3 al HLI
    by_cases hlt : n < L.length ∧ (∀ h : n < L.length, L[n].kind ≠ 0)
    · obtain ⟨hlt, hkd⟩ := hlt
      have hG : sigL L n = L[n] := by unfold sigL; rw [dif_pos hlt, if_neg (hkd hlt)]
      rw [hG]
      have hki : (n : Int) < L.length := by omega
      obtain ⟨b, off, a1, rfl, -, hcc, hta⟩ := LV.get n hlt
      have hkd := hkd hlt
      generalize L[n] = u at *
      obtain ⟨p1, q1, rfl, _⟩ := hta.shape
      obtain ⟨c0, c1, c2, c3⟩ := hcc
      have hkb : (u.kind == 0) = false := by simpa using hkd
      have HTA := Lib.hid hta
      clear hG LV hta hkd
      go_enter Try.func27, Try.ntmps27
      go_upto_region 1 with (fail)
      rw [← hV']
      clear hV'
      go_wp2
      refine post_gen7 fun W9 hW9 => ?_
      have hr := ResB.mk' (B := B) (W9 := W9) (G := u) (a := .slice p1 u.args.length q1) HB0.out ZV.out BV.out (HTA.out.mono fun b _ hp => ⟨.inl hp, rfl⟩) hW9
      clear z0 z1 z2 z3 f0 f1 f2 f3
      obtain ⟨⟨z0, z1, z2, z3⟩, -⟩ := box4c hr.box
      refine bodyPost_ret (v := .agg #[.int .i64 u.kind, .int .i64 u.num, .string u.name, .slice p1 u.args.length q1]) (by simp [results, Try.results27, go_sem, z0, z1, z2, z3]; try rfl) rfl ?_
      exact ⟨p1, q1, rfl, hr.at', hr.bel⟩
    · have hG : sigL L n = .var n := by
        unfold sigL
        by_cases h : n < L.length
        · rw [dif_pos h]
          by_cases h2 : L[n].kind = 0
          · rw [if_pos h2]
          · exact absurd ⟨h, fun _ => h2⟩ hlt
        · rw [dif_neg h]
      rw [hG]
      clear hG
      by_cases hl2 : n < L.length
      · have hki : (n : Int) < L.length := by omega
        obtain ⟨b, off, a1, rfl, -, ⟨c0, c1, c2, c3⟩, -⟩ := LV.get n hl2
        have h0 : L[n].kind = 0 := Decidable.byContradiction fun h => hlt ⟨hl2, fun _ => h⟩
        rw [h0] at c0
        clear c1 c2 c3 hlt LV h0
        go_enter Try.func27, Try.ntmps27
        go_upto_region 1 with (fail)
        rw [← hV']
        clear hV'
        go_wp2
        refine post_gen7 fun W9 hW9 => ?_
        have hr := ResB.mk' (B := B) (W9 := W9) (G := .var n) (a := .slice none 0 0) HB0.out ZV.out BV.out (.leaf rfl) hW9
        clear z0 z1 z2 z3 f0 f1 f2 f3
        obtain ⟨⟨z0, z1, z2, z3⟩, -⟩ := box4c hr.box
        simp only [Tm.kind, Tm.num, Tm.name] at z0 z1 z2
        refine bodyPost_ret (v := .agg #[.int .i64 1, .int .i64 n, .string ByteArray.empty, .slice none 0 0]) (by simp [results, Try.results27, go_sem, z0, z1, z2, z3]; try rfl) rfl ?_
        exact ⟨none, 0, rfl, hr.at', hr.bel⟩
      · have hki : ¬ (n : Int) < L.length := by omega
        clear hlt LV hl2
        go_enter Try.func27, Try.ntmps27
        go_upto_region 1 with (fail)
        rw [← hV']
        clear hV'
        go_wp2
        refine post_gen7 fun W9 hW9 => ?_
        have hr := ResB.mk' (B := B) (W9 := W9) (G := .var n) (a := .slice none 0 0) HB0.out ZV.out BV.out (.leaf rfl) hW9
        clear z0 z1 z2 z3 f0 f1 f2 f3
        obtain ⟨⟨z0, z1, z2, z3⟩, -⟩ := box4c hr.box
        simp only [Tm.kind, Tm.num, Tm.name] at z0 z1 z2
        refine bodyPost_ret (v := .agg #[.int .i64 1, .int .i64 n, .string ByteArray.empty, .slice none 0 0]) (by simp [results, Try.results27, go_sem, z0, z1, z2, z3]; try rfl) rfl ?_
        exact ⟨none, 0, rfl, hr.at', hr.bel⟩
  · have hkb : (t.kind == 1) = false := by simpa using hk
    by_cases hk4 : t.kind = 4
    · obtain ⟨s, l, rfl⟩ : ∃ s l, t = .cmp s l := by cases t <;> simp [Tm.kind] at hk4; exact ⟨_, _, rfl⟩
      have hl0 : 0 < l.length := by cases hok; assumption
      have HT := Lib.hid (TsAt.of_tm ht)
      have HC := Lib.hid hC
      have HOK := Lib.hid (Tm.ok_args hok)
      have HSZ : Hid (∀ u ∈ l, u.size ≤ 1000000) := fun u hu => by have := Tm.args_size (t := .cmp s l) (u := u) hu; omega
      have hll : l.length ≤ 1000000 := by have h1 := Tm.sizes_len l; simp only [Tm.size] at hn; omega
      simp only [Tm.args] at HT HC HOK
      rw [show mapT (sigL L) (.cmp s l) = .cmp s (mapTs (sigL L) l) from by simp only [mapT]]
      change Calls _ _ #[.agg #[.int .i64 4, .int .i64 0, .string s, .slice ao l.length cc], _] _ _
      have XV' : Hid (BoxL V w.heap.size [.int .i64 4, .int .i64 0, .string s, .slice ao l.length cc]) := XV
      have hV' : V = ((w.alloc (.cells #[.int .i64 4, .int .i64 0, .string s, .slice ao l.length cc] 24)).alloc (.cells #[.int .i64 0, .int .i64 0, .string ⟨#[]⟩, .slice none 0 0] 24)) := hV
      clear x0 x1 x2 x3
      obtain ⟨⟨x0, x1, x2, x3⟩, _⟩ := box4c XV'.out
      have N0 : Hid (NB B w.heap.size V (V.alloc (.cells #[.int .i64 4, .int .i64 0, .string s, .slice none 0 0] 24)) s (.slice none 0 0) []) := by
        have hb := BoxL.mk' V #[.int .i64 4, .int .i64 0, .string s, .slice none 0 0] 24
        rw [hsV] at hb
        exact ⟨OwnTs.none _ _ _, hb, AL.out _ _ _ (by omega), by simp [hsV], hB⟩
      have hk1 : ((4 : Int) == 1) = false := rfl
      clear ht hl hok hn hC h4 hk hk4 hkb hc1 hc2 hV XV al
      go_enter Try.func27, Try.ntmps27
      go_upto_region 1 with (fail)
      rw [← hV']
      clear hV'
      go_upto_region 8 with (fail)
      clear hsV x0 x1 x2 x3 z0 z1 z2 z3 f0 f1 f2 f3
      go_wp2
      go_loopg [6] l.length (fun n i wr => ∃ (k : Nat) (v : Value) (Q : List (Tm × Value)), k ≤ l.length ∧ i = .int .i64 k ∧ Hid (n = l.length - k) ∧ Hid (NB B w.heap.size V wr s v Q) ∧ Hid (Q.map Prod.fst = mapTs (sigL L) (l.take k)))
      case atStart => exact ⟨0, _, [], by omega, rfl, rfl, N0, Lib.hid rfl⟩
      case round =>
        obtain ⟨k, v, Q, hk, rfl, HN, HW, HQ⟩ := hrel
        have HBw : Hid (Below w.heap.size w wr) := BV.out.trans (HW.out.bel.mono (by omega))
        have hXw := XV'.out.block (HW.out.bel.block _ (by omega))
        obtain ⟨⟨x0, x1, x2, x3⟩, _⟩ := box4c hXw
        obtain ⟨va, vc, rfl, hvc, _⟩ := HW.out.own.shape
        have hQb : Q.length ≤ 1000000 := by have := congrArg List.length HQ.out; simp only [List.length_map, mapTs_len, List.length_take] at this; omega
        obtain ⟨⟨y0, y1, y2, y3⟩, g0, g1, g2, g3⟩ := box4c HW.out.box
        have hwz := HW.out.sz
        by_cases hlt : k < l.length
        · have hki : (k : Int) < l.length := by omega
          obtain ⟨b, off, a1, rfl, -, hcc, hta⟩ := (HT.out.later HBw.out).get k hlt
          obtain ⟨p1, q1, rfl, _⟩ := hta.shape
          have hbl := hcc.lt
          have CX := Lib.hid (HC.out l[k] (List.getElem_mem hlt))
          have hou := HOK.out l[k] (List.getElem_mem hlt)
          have hsu := HSZ.out l[k] (List.getElem_mem hlt)
          have HQ2 : Hid (∀ q, (Q ++ [(mapT (sigL L) l[k], q)]).map Prod.fst = mapTs (sigL L) (l.take (k + 1))) := fun q => by rw [List.map_append, HQ.out, List.take_succ_eq_append_getElem hlt, mapTs_append]; rfl
          generalize l[k] = u at *
          obtain ⟨c0, c1, c2, c3⟩ := hcc
          have CC : Hid (∀ W, Below wr.heap.size wr W → Calls Try.prog 27 #[.agg #[.int .i64 u.kind, .int .i64 u.num, .string u.name, .slice p1 u.args.length q1], .slice lo L.length lc] W fun e w' => ∃ pa qa, e = .returned (.agg #[.int .i64 (mapT (sigL L) u).kind, .int .i64 (mapT (sigL L) u).num, .string (mapT (sigL L) u).name, .slice pa (mapT (sigL L) u).args.length qa]) ∧ TmAt (fun b => b < B ∨ wr.heap.size ≤ b) w' (mapT (sigL L) u) (.slice pa (mapT (sigL L) u).args.length qa) ∧ Below wr.heap.size wr w') := fun W h =>
            (CX.out _ _ W (Nat.le_trans HB0.out (HBw.out.trans (h.mono HBw.out.size)).size) (hta.later h) (HLI.out.grow (HBw.out.trans (h.mono HBw.out.size)) fun _ _ h => h) hou hsu).mono fun e w' ⟨pa, qa, h1, h2, h3⟩ => ⟨pa, qa, h1, h2.mono fun b _ hp => ⟨hp.imp id (Nat.le_trans h.size), rfl⟩, h.trans (h3.mono h.size)⟩
          generalize mapT (sigL L) u = G at *
          have hbw2 : w.heap.size + 2 < wr.heap.size := by omega
          have hbw0 : w.heap.size < wr.heap.size := by omega
          clear hta CX hou hsu hXw
          go_upto_region 11 with (fail)
          go_region_law
            (first
              | (refine step_appendX rfl (.tmp 45) (.tmp 53) 22 rfl (w.heap.size + 3) 24 i0 (.agg #[.int .i64 0, .int .i64 0, .string ByteArray.empty, .slice none 0 0]) 4 56 Try.underlying22 hi hz0 hz1 hz2 rfl (by decide) _ Q.length (tmCs Q) rfl N3.out.own.own (#[.int .i64 G.kind, .int .i64 G.num, .string G.name, .slice pa G.args.length qa] : Array Value).toList _ rfl ?_ rfl ?_ ⟨by omega, by omega⟩ N3.out.sz ?_; (· exact news_al _ _ _); (· exact one4r rfl rfl rfl rfl); intro gg cap w6 ho6 hb6 hk6 hl6; have N6 := Lib.hid (N3.out.push TG.out ho6 hb6 hk6 hl6); have B6 := Lib.hid (N3.out.kept hk6); clear y0 y1 y2 y3 g0 g1 g2 g3; obtain ⟨⟨y0, y1, y2, y3⟩, g0, g1, g2, g3⟩ := box4c B6.out; clear ho6 hb6 hk6 hl6)
              | (go_simp; go_at_call 27; ((with_reducible refine (CC.out _ ?_).mono ?_); (· go_grown); rintro e W2 ⟨pa, qa, rfl, tg, bb⟩; have N2 := Lib.hid (HW.out.below bb); have N3 := Lib.hid (N2.out.below (AL.out W2 (.cells #[.int .i64 G.kind, .int .i64 G.num, .string G.name, .slice pa G.args.length qa] 24) _ (Nat.le_refl _))); have TG := Lib.hid (tgB_push (o := (.cells #[.int .i64 G.kind, .int .i64 G.num, .string G.name, .slice pa G.args.length qa] 24)) HW.out tg); clear y0 y1 y2 y3 g0 g1 g2 g3; obtain ⟨⟨y0, y1, y2, y3⟩, g0, g1, g2, g3⟩ := box4c N2.out.box; have hbw2' : w.heap.size + 2 < W2.heap.size := Nat.lt_of_lt_of_le hbw2 bb.size; clear bb tg)))
          all_goals
            go_wp2
            go_roundg (l.length - (k + 1))
            case measure => have := HN.out; omega
            case rel => exact ⟨k + 1, _, _, by omega, by go_num, rfl, N6, HQ2.out _⟩
        · obtain rfl : k = l.length := by omega
          have HQ3 : Hid (Q.map Prod.fst = mapTs (sigL L) l) := by have h := HQ.out; rw [List.take_length] at h; exact h
          have HQE : Hid (Q.length = (Tm.cmp s (mapTs (sigL L) l)).args.length) := by show _ = _; have h := congrArg List.length HQ3.out; simpa [Tm.args] using h
          have ZX := Lib.hid (ZV.out.block (HW.out.bel.block _ (by omega)))
          obtain ⟨⟨z0, z1, z2, z3⟩, f0, f1, f2, f3⟩ := box4c ZX.out
          go_wp2
          refine post_gen7 fun W9 hW9 => ?_
          have hat : TmAt (fun b => b < B ∨ w.heap.size + 2 ≤ b) wr (.cmp s (mapTs (sigL L) l)) (.slice va Q.length vc) := (HW.out.tm s HQ3.out (by rw [mapTs_len]; exact hl0)).mono fun b _ hp => ⟨by omega, rfl⟩
          have hr := ResB.mk' (B := B) (W9 := W9) (G := .cmp s (mapTs (sigL L) l)) (a := .slice va Q.length vc) HB0.out ZX.out HBw.out hat hW9
          clear z0 z1 z2 z3 f0 f1 f2 f3 y0 y1 y2 y3 g0 g1 g2 g3
          obtain ⟨⟨z0, z1, z2, z3⟩, -⟩ := box4c hr.box
          simp only [Tm.kind, Tm.num, Tm.name] at z0 z1 z2
          refine bodyPost_ret (v := .agg #[.int .i64 4, .int .i64 0, .string s, .slice va Q.length vc]) (by simp [results, Try.results27, go_sem, z0, z1, z2, z3]; try rfl) rfl ?_
          have h9 := hr.at'
          rw [HQE.out] at h9
          exact ⟨va, vc, congrArg (fun n => Ending.returned (.agg #[.int .i64 4, .int .i64 0, .string s, .slice va n vc])) HQE.out, h9, hr.bel⟩
    · have hk4b : (t.kind != 4) = true := by simpa using hk4
      have hG : mapT (sigL L) t = t := by cases t <;> simp [Tm.kind] at hk hk4 <;> simp [mapT]
      rw [hG]
      have hlf : t.args = [] := Tm.args_kind hk4
      have HLF := Lib.hid hlf
      have he := h4 hk4
      simp only [Value.slice.injEq] at he
      obtain ⟨rfl, -, rfl⟩ := he
      have hl0 : t.args.length = 0 := by rw [hlf]; rfl
      unfold tmV
      clear ht hl hok hn hC h4 hk hk4 hc1 hc2 hG hlf al
      generalize hz : t.args.length = z at *
      subst hl0
      go_enter Try.func27, Try.ntmps27
      go_upto_region 1 with (fail)
      rw [← hV]
      clear hV hsV
      go_wp2
      refine post_gen7 fun W9 hW9 => ?_
      have hr := ResB.mk' (B := B) (W9 := W9) (G := t) (a := .slice none 0 0) HB0.out ZV.out BV.out (.leaf HLF.out) hW9
      clear z0 z1 z2 z3 f0 f1 f2 f3
      obtain ⟨⟨z0, z1, z2, z3⟩, -⟩ := box4c hr.box
      refine bodyPost_ret (v := .agg #[.int .i64 t.kind, .int .i64 t.num, .string t.name, .slice none 0 0]) (by simp [results, Try.results27, go_sem, z0, z1, z2, z3]; try rfl) rfl ?_
      have h9 := hr.at'
      exact ⟨none, 0, by rw [hz], by rw [hz]; exact h9, hr.bel⟩
theorem rsub_all (B : Nat) (L : List Tm) (t : Tm) : RSubC B L t := by
  induction t using Tm.ind with
  | h4 s l ih => exact fun va lv w hB ht hl hok hn => rsub_step B L _ va lv w hB ht hl hok hn ih
  | _ => exact fun va lv w hB ht hl hok hn => rsub_step B L _ va lv w hB ht hl hok hn (by simp [Tm.args])
end Go.Proofs.Ytmffobadnmkpbaa
namespace Go.Proofs.Ytmffobadnmkpbaa
open Go.RowKit

def DepthC (t : Tm) : Prop := ∀ (va : Value) (w : World), TmAt (fun _ => True) w t va → t.size ≤ 1000000000 →
  Calls Try.prog 17 #[tmV t va] w fun e w' => e = .returned (.int .i64 t.depth) ∧ Below w.heap.size w w'

set_option maxRecDepth 100000 in
set_option maxHeartbeats 1600000 in
theorem depth_step (t : Tm) (va : Value) (w : World) (ht : TmAt (fun _ => True) w t va) (hb : t.size ≤ 1000000000) (hC : ∀ u ∈ t.args, DepthC u) :
    Calls Try.prog 17 #[tmV t va] w fun e w' => e = .returned (.int .i64 t.depth) ∧ Below w.heap.size w w' := by
  have h4 := fun h => ht.nil_of h
  obtain ⟨ao, cc, rfl, hc1, hc2⟩ := ht.shape
  have HT := Lib.hid (TsAt.of_tm ht)
  have HC := Lib.hid hC
  have HA : Hid (∀ W, Calls Try.prog 62 #[.agg #[.int .i64 t.kind, .int .i64 t.num, .string t.name, .slice ao t.args.length cc]] W fun e w' => e = .returned (.slice ao t.args.length cc) ∧ Below W.heap.size W w') := fun W => args_c t _ _ _ h4 W
  have HZ := Lib.hid (below_one w)
  have HS := Lib.hid t.depth_eq
  have HS2 := Lib.hid (show ∀ u ∈ t.args, u.size ≤ 1000000000 from fun u hu => by have := Tm.args_size hu; omega)
  have HB := Lib.hid (show t.depth ≤ 1000000000 from Nat.le_trans t.depth_le hb)
  have hl : t.args.length ≤ 1000000000 := by have h1 := Tm.sizes_len t.args; have h2 := t.size_eq; omega
  unfold tmV
  clear ht hC h4 hb hc1 hc2
  generalize t.depth = z at *
  generalize t.args = l at *
  go_enter Try.func17, Try.ntmps17
  go_wp2_with (first | (go_at_call 62; ((with_reducible refine (HA.out _).mono ?_); rintro e W1 ⟨rfl, bb⟩; have B1 := Lib.hid ((HZ.out _).trans (bb.mono (by simp))); clear bb)))
  go_loopg [3, 9] l.length (fun n s i wr => ∃ (k : Nat) (S : Int), k ≤ l.length ∧ s = .int .i64 S ∧ i = .int .i64 k ∧ 0 ≤ S ∧ S ≤ 1000000000 ∧ Hid (n = l.length - k) ∧ Hid (S = Tm.depths (l.take k)) ∧ Hid (Below w.heap.size w wr))
  case atStart => exact ⟨0, 0, by omega, rfl, rfl, by omega, by omega, rfl, Lib.hid (by simp [Tm.depths]), B1⟩
  case round =>
    obtain ⟨k, S, hk, rfl, rfl, hS0, hS1, HN, HE, HW⟩ := hrel
    by_cases hlt : k < l.length
    · obtain ⟨b, off, a1, rfl, -, hcc, hta⟩ := (HT.out.later HW.out).get k hlt
      obtain ⟨ao1, c1, rfl, _⟩ := hta.shape
      have CX := Lib.hid (HC.out l[k] (List.getElem_mem hlt))
      have HD := Lib.hid (Tm.depths_take l k hlt)
      have hbb : (l[k].depth : Int) ≤ 1000000000 := by have := HS2.out _ (List.getElem_mem hlt); have := l[k].depth_le; omega
      have hbc := HS2.out _ (List.getElem_mem hlt)
      generalize l[k] = u at *
      obtain ⟨x0, x1, x2, x3⟩ := hcc
      have hbl := World.block_lt_of_cell? wr _ x0
      have HU := Lib.hid hta
      have HZ2 := Lib.hid (below_one wr)
      have CC : Hid (∀ W, Below wr.heap.size wr W → Calls Try.prog 17 #[.agg #[.int .i64 u.kind, .int .i64 u.num, .string u.name, .slice ao1 u.args.length c1]] W fun e w' => e = .returned (.int .i64 u.depth) ∧ Below W.heap.size W w') := fun W h => CX.out _ W (HU.out.later h) hbc
      clear hta CX hbc
      generalize u.depth = y at *
      go_wp2_with (first | (go_at_call 17; ((with_reducible refine (CC.out _ (HZ2.out _)).mono ?_); rintro e W2 ⟨rfl, bb⟩; have BB := Lib.hid bb; clear bb)))
      all_goals
        go_roundg (l.length - (k + 1))
        case measure => have := HN.out; omega
        case rel => exact ⟨k + 1, _, by omega, rfl, by go_num, by omega, by omega, rfl, Lib.hid (by have h1 := HE.out; have h3 := HD.out; omega), HW.out.trans ((HZ2.out _).trans (BB.out.mono (by simp)) |>.mono HW.out.size)⟩
    · obtain rfl : k = l.length := by omega
      have HR : Hid (S + 1 = z) := by have h1 := HE.out; have h2 := HS.out; rw [List.take_length] at h1; show _ = _; omega
      go_wp2
      go_ret
      exact ⟨ret_int HR.out, HW.out⟩
theorem depth_all (t : Tm) : DepthC t := by
  induction t using Tm.ind with
  | h4 s l ih => exact fun va w ha hb => depth_step _ va w ha hb ih
  | _ => exact fun va w ha hb => depth_step _ va w ha hb (by simp [Tm.args])
theorem depth_c (t : Tm) (va : Value) (w : World) (ht : TmAt (fun _ => True) w t va) (hb : t.size ≤ 1000000000) :
    Calls Try.prog 17 #[tmV t va] w fun e w' => e = .returned (.int .i64 t.depth) ∧ Below w.heap.size w w' := depth_all t va w ht hb
end Go.Proofs.Ytmffobadnmkpbaa
namespace Go.Proofs.Ytmffobadnmkpbaa
open Go.RowKit

def RDepthC (t : Tm) : Prop := ∀ (va : Value) (w : World), TmAt (fun _ => True) w t va → t.size ≤ 1000000000 →
  Calls Try.prog 18 #[tmV t va] w fun e w' => e = .returned (.int .i64 t.depth) ∧ Below w.heap.size w w'

set_option maxRecDepth 100000 in
set_option maxHeartbeats 1600000 in
theorem rdepth_step (t : Tm) (va : Value) (w : World) (ht : TmAt (fun _ => True) w t va) (hb : t.size ≤ 1000000000) (hC : ∀ u ∈ t.args, RDepthC u) :
    Calls Try.prog 18 #[tmV t va] w fun e w' => e = .returned (.int .i64 t.depth) ∧ Below w.heap.size w w' := by
  obtain ⟨ao, cc, rfl, hc1, hc2⟩ := ht.shape
  have HT := Lib.hid (TsAt.of_tm ht)
  have HC := Lib.hid hC
  have HZ := Lib.hid (below_one w)
  have HS := Lib.hid t.depth_eq
  have HS2 := Lib.hid (show ∀ u ∈ t.args, u.size ≤ 1000000000 from fun u hu => by have := Tm.args_size hu; omega)
  have hl : t.args.length ≤ 1000000000 := by have h1 := Tm.sizes_len t.args; have h2 := t.size_eq; omega
  unfold tmV
  have H4 := Lib.hid (fun h : t.kind ≠ 4 => Tm.args_kind h)
  clear ht hC hb hc1 hc2
  generalize t.depth = z at *
  generalize t.args = l at *
  by_cases hk4 : t.kind = 4
  · rw [hk4]
    clear hk4 H4
    go_enter Try.func18, Try.ntmps18
    go_wp2
    go_loopg [3, 4] l.length (fun n s i wr => ∃ (k : Nat) (S : Int), k ≤ l.length ∧ s = .int .i64 S ∧ i = .int .i64 k ∧ 0 ≤ S ∧ S ≤ 1000000000 ∧ Hid (n = l.length - k) ∧ Hid (S = Tm.depths (l.take k)) ∧ Hid (Below (w.heap.size + 1) (w.alloc (.cells #[.int .i64 4, .int .i64 t.num, .string t.name, .slice ao l.length cc] 24)) wr))
    case atStart => exact ⟨0, 0, by omega, rfl, rfl, by omega, by omega, rfl, Lib.hid (by simp [Tm.depths]), Below.refl _ _⟩
    case round =>
      obtain ⟨k, S, hk, rfl, rfl, hS0, hS1, HN, HE, HW⟩ := hrel
      have HWw := Lib.hid (below_box HW.out)
      obtain ⟨y0, y1, y2, y3⟩ := box_one HW.out
      by_cases hlt : k < l.length
      · obtain ⟨b, off, a1, rfl, -, hcc, hta⟩ := (HT.out.later HWw.out).get k hlt
        obtain ⟨ao1, c1, rfl, _⟩ := hta.shape
        have CX := Lib.hid (HC.out l[k] (List.getElem_mem hlt))
        have HD := Lib.hid (Tm.depths_take l k hlt)
        have hbb : (l[k].depth : Int) ≤ 1000000000 := by have := HS2.out _ (List.getElem_mem hlt); have := l[k].depth_le; omega
        have hbc := HS2.out _ (List.getElem_mem hlt)
        generalize l[k] = u at *
        obtain ⟨x0, x1, x2, x3⟩ := hcc
        have CC : Hid (Calls Try.prog 18 #[.agg #[.int .i64 u.kind, .int .i64 u.num, .string u.name, .slice ao1 u.args.length c1]] wr fun e w' => e = .returned (.int .i64 u.depth) ∧ Below wr.heap.size wr w') := CX.out _ wr hta hbc
        clear hta CX hbc
        generalize u.depth = y at *
        go_wp2_with (first | (go_at_call 18; ((with_reducible refine CC.out.mono ?_); rintro e W2 ⟨rfl, bb⟩; have BB := Lib.hid bb; clear bb)))
        all_goals
          go_roundg (l.length - (k + 1))
          case measure => have := HN.out; omega
          case rel => exact ⟨k + 1, _, by omega, rfl, by go_num, by omega, by omega, rfl, Lib.hid (by have h1 := HE.out; have h3 := HD.out; omega), HW.out.trans (BB.out.mono (le_box HW.out))⟩
      · obtain rfl : k = l.length := by omega
        have HR : Hid (S + 1 = z) := by have h1 := HE.out; have h2 := HS.out; rw [List.take_length] at h1; show _ = _; omega
        go_wp2
        go_ret
        exact ⟨ret_int HR.out, HWw.out⟩
  · have hkb : (t.kind == 4) = false := by simpa using hk4
    have hl0 := H4.out hk4
    subst hl0
    have HR : Hid ((1 : Int) = z) := by have h2 := HS.out; simp only [Tm.depths] at h2; show _ = _; omega
    clear hk4 H4
    go_enter Try.func18, Try.ntmps18
    go_wp2
    go_loopg [3, 4] 0 (fun n s i wr => s = .int .i64 0 ∧ i = .int .i64 0 ∧ Hid (Below (w.heap.size + 1) (w.alloc (.cells #[.int .i64 t.kind, .int .i64 t.num, .string t.name, .slice ao ([] : List Tm).length cc] 24)) wr))
    case atStart => exact ⟨rfl, rfl, Below.refl _ _⟩
    case round =>
      obtain ⟨rfl, rfl, HW⟩ := hrel
      have HWw := Lib.hid (below_box HW.out)
      obtain ⟨y0, y1, y2, y3⟩ := box_one HW.out
      go_wp2
      go_ret
      exact ⟨ret_int HR.out, HWw.out⟩
theorem rdepth_all (t : Tm) : RDepthC t := by
  induction t using Tm.ind with
  | h4 s l ih => exact fun va w ha hb => rdepth_step _ va w ha hb ih
  | _ => exact fun va w ha hb => rdepth_step _ va w ha hb (by simp [Tm.args])
theorem rdepth_c (t : Tm) (va : Value) (w : World) (ht : TmAt (fun _ => True) w t va) (hb : t.size ≤ 1000000000) :
    Calls Try.prog 18 #[tmV t va] w fun e w' => e = .returned (.int .i64 t.depth) ∧ Below w.heap.size w w' := rdepth_all t va w ht hb
end Go.Proofs.Ytmffobadnmkpbaa
namespace Go.Proofs.Ytmffobadnmkpbaa
open Go.RowKit

theorem kk4 {W : World} {b : Nat} {x0 x1 x2 x3 : Value} (h : BoxL W b [x0, x1, x2, x3]) : W.cell? ⟨b, 0, none⟩ = some x0 ∧ W.cell? ⟨b, 1, none⟩ = some x1 ∧ W.cell? ⟨b, 2, none⟩ = some x2 ∧ W.cell? ⟨b, 3, none⟩ = some x3 := ⟨(h.get 0 rfl).1, (h.get 1 rfl).1, (h.get 2 rfl).1, (h.get 3 rfl).1⟩
set_option maxRecDepth 100000 in
set_option maxHeartbeats 3200000 in
theorem termSizes_any (s : ByteArray) (w : World) : Calls Try.prog 3 #[.string s] w fun e w' => e = .returned (.bool true) ∧ Below w.heap.size w w' := by
  have CO := Lib.hid (one7_c s w)
  go_enter Try.func3, Try.ntmps3
  go_upto_region 2 with (first | (go_at_call 14; ((with_reducible refine CO.out.mono ?_); rintro e W1 ⟨t, ao, cap, b, rfl, ht, hf, bb⟩; have HT := Lib.hid ht; have HF := Lib.hid hf; have B1 := Lib.hid bb; clear bb ht hf)))
  cases b with
  | false =>
    have CS : Hid (∀ W, Calls Try.prog 15 #[.agg #[.int .i64 2, .int .i64 0, .string ⟨#[]⟩, .slice none 0 0]] W fun e w' => e = .returned (.int .i64 1) ∧ Below W.heap.size W w') := fun W => size_c (.int 0) (.slice none 0 0) W (.leaf rfl) (by simp [Tm.size])
    have B2 := Lib.hid (B1.out.trans (((Below.refl W1.heap.size W1).alloc (Nat.le_refl _) (.cells #[.int .i64 t.kind, .int .i64 t.num, .string t.name, .slice ao t.args.length cap] 24)).mono B1.out.size))
    go_wp2_with (first | (go_at_call 15; ((with_reducible refine (CS.out _).mono ?_); rintro e W2 ⟨rfl, bb⟩; have B3 := Lib.hid (B2.out.trans (bb.mono B2.out.size)); clear bb)))
    go_ret
    exact ⟨rfl, B3.out⟩
  | true =>
    obtain ⟨hok, hsz⟩ := HF.out rfl
    have hz := t.vars_len
    obtain ⟨W0, hW0⟩ : ∃ W0, W0 = W1.alloc (.cells #[.int .i64 t.kind, .int .i64 t.num, .string t.name, .slice ao t.args.length cap] 24) := ⟨_, rfl⟩
    have b10 : Below W1.heap.size W1 W0 := by rw [hW0]; exact (Below.refl _ _).alloc (Nat.le_refl _) _
    have B2 := Lib.hid (B1.out.trans (b10.mono B1.out.size))
    have hta : TmAt (fun _ => True) W0 t (.slice ao t.args.length cap) := HT.out.any.later b10
    have KK : Hid (∀ W, Below W0.heap.size W0 W → W.cell? ⟨W1.heap.size, 0, none⟩ = some (.int .i64 t.kind) ∧ W.cell? ⟨W1.heap.size, 1, none⟩ = some (.int .i64 t.num) ∧ W.cell? ⟨W1.heap.size, 2, none⟩ = some (.string t.name) ∧ W.cell? ⟨W1.heap.size, 3, none⟩ = some (.slice ao t.args.length cap)) := fun W h => by
      subst hW0
      exact kk4 ((BoxL.mk' W1 #[.int .i64 t.kind, .int .i64 t.num, .string t.name, .slice ao t.args.length cap] 24).below h (by simp))
    have C1 : Hid (∀ W, Below W0.heap.size W0 W → Calls Try.prog 15 #[.agg #[.int .i64 t.kind, .int .i64 t.num, .string t.name, .slice ao t.args.length cap]] W fun e w' => e = .returned (.int .i64 t.size) ∧ Below W0.heap.size W0 w') := fun W h => (size_c t _ W (hta.later h) (by omega)).mono fun e w' ⟨h1, h2⟩ => ⟨h1, h.trans (h2.mono h.size)⟩
    have C2 : Hid (∀ W, Below W0.heap.size W0 W → Calls Try.prog 16 #[.agg #[.int .i64 t.kind, .int .i64 t.num, .string t.name, .slice ao t.args.length cap]] W fun e w' => e = .returned (.int .i64 t.size) ∧ Below W0.heap.size W0 w') := fun W h => (rsize_c t _ W (hta.later h) (by omega)).mono fun e w' ⟨h1, h2⟩ => ⟨h1, h.trans (h2.mono h.size)⟩
    have C3 : Hid (∀ W, Below W0.heap.size W0 W → Calls Try.prog 17 #[.agg #[.int .i64 t.kind, .int .i64 t.num, .string t.name, .slice ao t.args.length cap]] W fun e w' => e = .returned (.int .i64 t.depth) ∧ Below W0.heap.size W0 w') := fun W h => (depth_c t _ W (hta.later h) (by omega)).mono fun e w' ⟨h1, h2⟩ => ⟨h1, h.trans (h2.mono h.size)⟩
    have C4 : Hid (∀ W, Below W0.heap.size W0 W → Calls Try.prog 18 #[.agg #[.int .i64 t.kind, .int .i64 t.num, .string t.name, .slice ao t.args.length cap]] W fun e w' => e = .returned (.int .i64 t.depth) ∧ Below W0.heap.size W0 w') := fun W h => (rdepth_c t _ W (hta.later h) (by omega)).mono fun e w' ⟨h1, h2⟩ => ⟨h1, h.trans (h2.mono h.size)⟩
    have C5 : Hid (∀ W, Below W0.heap.size W0 W → Calls Try.prog 20 #[.agg #[.int .i64 t.kind, .int .i64 t.num, .string t.name, .slice ao t.args.length cap]] W fun e w' => ∃ a c, e = .returned (.slice a t.vars.length c) ∧ IsAt w' (.slice a t.vars.length c) t.vars ∧ Below W0.heap.size W0 w') := fun W h => (vars_c t _ W (hta.later h) hok (by omega)).mono fun e w' ⟨a, c, h1, h2, h3⟩ => ⟨a, c, h1, h2, h.trans (h3.mono h.size)⟩
    have C6 : Hid (∀ W, Below W0.heap.size W0 W → ∀ v, IsAt W v t.vars → Calls Try.prog 21 #[.agg #[.int .i64 t.kind, .int .i64 t.num, .string t.name, .slice ao t.args.length cap]] W fun e w' => ∃ a c, e = .returned (.slice a t.vars.length c) ∧ IsAt w' (.slice a t.vars.length c) t.vars ∧ IsAt w' v t.vars ∧ Below W0.heap.size W0 w') := fun W h v hv => (rvars_all t _ W (hta.later h) hok (by omega)).mono fun e w' ⟨a, c, h1, h2, h3⟩ => ⟨a, c, h1, IsAt.own h2, hv.below h3, h.trans (h3.mono h.size)⟩
    have C7 : Hid (∀ W v u, Below W0.heap.size W0 W → IsAt W v t.vars → IsAt W u t.vars → Calls Try.prog 19 #[v, u] W fun e w' => e = .returned (.bool true) ∧ Below W0.heap.size W0 w') := fun W v u h h1 h2 => (sameInts07_c v u _ _ W h1 h2 (by omega)).mono fun e w' ⟨h3, h4⟩ => ⟨by simpa using h3, h.trans (h4.mono h.size)⟩
    have k0 := KK.out _ (Below.refl _ _)
    rw [← hW0]
    clear hW0 hta b10
    generalize t.size = z at *
    generalize t.depth = y at *
    go_upto_region 4 with (fail)
    go_region_held3 (fun W => W.cell? ⟨W1.heap.size, 0, none⟩ = some (.int .i64 t.kind) ∧ W.cell? ⟨W1.heap.size, 1, none⟩ = some (.int .i64 t.num) ∧ W.cell? ⟨W1.heap.size, 2, none⟩ = some (.string t.name) ∧ W.cell? ⟨W1.heap.size, 3, none⟩ = some (.slice ao t.args.length cap))
      ((first | exact KK.out _ P7.out | exact KK.out _ P6.out | exact KK.out _ P5.out | exact KK.out _ P4.out | exact KK.out _ P3.out | exact KK.out _ P2.out | exact KK.out _ P1.out | (refine KK.out _ ?_; go_grown)))
      (first
        | (go_at_call 15; ((with_reducible refine (C1.out _ ?_).mono ?_); (· go_grown); rintro e W2 ⟨rfl, bb⟩; have P1 := Lib.hid bb; clear bb))
        | (go_at_call 16; ((with_reducible refine (C2.out _ P1.out).mono ?_); rintro e W3 ⟨rfl, bb⟩; have P2 := Lib.hid bb; clear bb))
        | (go_at_call 17; ((with_reducible refine (C3.out _ P2.out).mono ?_); rintro e W4 ⟨rfl, bb⟩; have P3 := Lib.hid bb; clear bb))
        | (go_at_call 18; ((with_reducible refine (C4.out _ P3.out).mono ?_); rintro e W5 ⟨rfl, bb⟩; have P4 := Lib.hid bb; clear bb))
        | (go_at_call 20; ((with_reducible refine (C5.out _ P4.out).mono ?_); rintro e W6 ⟨a1, c1, rfl, i1, bb⟩; have P5 := Lib.hid bb; have I1 := Lib.hid i1; clear bb i1))
        | (go_at_call 21; ((with_reducible refine (C6.out _ P5.out _ I1.out).mono ?_); rintro e W7 ⟨a2, c2, rfl, i2, i1, bb⟩; have P6 := Lib.hid bb; have I2 := Lib.hid i2; have I1' := Lib.hid i1; clear bb i2 i1))
        | (go_at_call 19; ((with_reducible refine (C7.out _ _ _ P6.out I1'.out I2.out).mono ?_); rintro e W8 ⟨rfl, bb⟩; have P7 := Lib.hid bb; clear bb)))
    go_wp2
    go_ret
    exact ⟨rfl, B2.out.trans (P7.out.mono B2.out.size)⟩
end Go.Proofs.Ytmffobadnmkpbaa
namespace Go.Proofs.Ytmffobadnmkpbaa
open Go.RowKit

def SameC07 (t : Tm) : Prop := ∀ (va vb : Value) (w : World), TmAt (fun _ => True) w t va → TmAt (fun _ => True) w t vb →
  Calls Try.prog 26 #[tmV t va, tmV t vb] w fun e w' => e = .returned (.bool true) ∧ Below w.heap.size w w'
set_option maxRecDepth 100000 in
set_option maxHeartbeats 1600000 in
theorem sames07_c (va vb : Value) (l : List Tm) (w : World) (ha : TsAt (fun _ => True) w va l) (hb : TsAt (fun _ => True) w vb l) (hC : ∀ t ∈ l, SameC07 t) :
    Calls Try.prog 33 #[va, vb] w fun e w' => e = .returned (.bool true) ∧ Below w.heap.size w w' := by
  obtain ⟨ao, ca, rfl, hl1, hl2⟩ := ha.shape
  obtain ⟨bo, cb, rfl, _, _⟩ := hb.shape
  have hla : l.length ≤ 9223372036854775807 := by unfold maxLen at hl2; omega
  have HA := Lib.hid ha
  have HB := Lib.hid hb
  have HC := Lib.hid hC
  clear ha hb hC hl1 hl2
  go_enter Try.func33, Try.ntmps33
  go_wp2
  go_loopg [5] l.length (fun n i wr => ∃ k : Nat, k ≤ l.length ∧ i = .int .i64 k ∧ Hid (n = l.length - k) ∧ Hid (Below w.heap.size w wr))
  case atStart => exact ⟨0, by omega, rfl, rfl, Below.refl _ _⟩
  case round =>
    obtain ⟨k, hk, rfl, HN, HW⟩ := hrel
    by_cases hlt : k < l.length
    · have hki : (k : Int) < l.length := by omega
      obtain ⟨b1, o1, a1, rfl, -, hcc1, hta⟩ := (HA.out.later HW.out).get k hlt
      obtain ⟨b2, o2, a2, rfl, -, hcc2, htb⟩ := (HB.out.later HW.out).get k hlt
      obtain ⟨p1, q1, rfl, _⟩ := hta.shape
      obtain ⟨p2, q2, rfl, _⟩ := htb.shape
      have hb1 := hcc1.lt
      have hb2 := hcc2.lt
      have CX := Lib.hid (HC.out l[k] (List.getElem_mem hlt))
      generalize l[k] = t at *
      have CC : Hid (∀ W, Below wr.heap.size wr W → Calls Try.prog 26 #[.agg #[.int .i64 t.kind, .int .i64 t.num, .string t.name, .slice p1 t.args.length q1], .agg #[.int .i64 t.kind, .int .i64 t.num, .string t.name, .slice p2 t.args.length q2]] W fun e w' => e = .returned (.bool true) ∧ Below W.heap.size W w') := fun W h => CX.out _ _ W (hta.later h) (htb.later h)
      have KK : Hid (∀ W, Below wr.heap.size wr W → CellsT W b1 (o1 + k * 4) t (.slice p1 t.args.length q1) ∧ CellsT W b2 (o2 + k * 4) t (.slice p2 t.args.length q2)) := fun W h => ⟨hcc1.block (h.block _ hb1), hcc2.block (h.block _ hb2)⟩
      have KS : Hid (∀ W, Below wr.heap.size wr W → W.cell? ⟨b1, o1 + k * 4, none⟩ = some (.int .i64 t.kind) ∧ W.cell? ⟨b1, o1 + k * 4 + 1, none⟩ = some (.int .i64 t.num) ∧ W.cell? ⟨b1, o1 + k * 4 + 2, none⟩ = some (.string t.name) ∧ W.cell? ⟨b1, o1 + k * 4 + 3, none⟩ = some (.slice p1 t.args.length q1) ∧ W.cell? ⟨b2, o2 + k * 4, none⟩ = some (.int .i64 t.kind) ∧ W.cell? ⟨b2, o2 + k * 4 + 1, none⟩ = some (.int .i64 t.num) ∧ W.cell? ⟨b2, o2 + k * 4 + 2, none⟩ = some (.string t.name) ∧ W.cell? ⟨b2, o2 + k * 4 + 3, none⟩ = some (.slice p2 t.args.length q2)) := fun W h => by
        obtain ⟨h1, h2⟩ := KK.out W h
        exact ⟨h1.c0, h1.c1, h1.c2, h1.c3, h2.c0, h2.c1, h2.c2, h2.c3⟩
      have k0 := KS.out _ (Below.refl _ _)
      clear hta htb hcc1 hcc2 CX KK
      go_upto_region 6 with (fail)
      go_region_held3 (fun W => W.cell? ⟨b1, o1 + k * 4, none⟩ = some (.int .i64 t.kind) ∧ W.cell? ⟨b1, o1 + k * 4 + 1, none⟩ = some (.int .i64 t.num) ∧ W.cell? ⟨b1, o1 + k * 4 + 2, none⟩ = some (.string t.name) ∧ W.cell? ⟨b1, o1 + k * 4 + 3, none⟩ = some (.slice p1 t.args.length q1) ∧ W.cell? ⟨b2, o2 + k * 4, none⟩ = some (.int .i64 t.kind) ∧ W.cell? ⟨b2, o2 + k * 4 + 1, none⟩ = some (.int .i64 t.num) ∧ W.cell? ⟨b2, o2 + k * 4 + 2, none⟩ = some (.string t.name) ∧ W.cell? ⟨b2, o2 + k * 4 + 3, none⟩ = some (.slice p2 t.args.length q2))
        ((first | exact KS.out _ P2.out | (refine KS.out _ ?_; go_grown)))
        (first | (go_at_call 26; refine (CC.out _ ?_).mono ?_; (· go_grown); rintro e W2 ⟨rfl, bb⟩; have P2 : Hid (Below wr.heap.size wr W2) := Below.trans (B := wr.heap.size) (by go_grown) (bb.mono (by go_size)); clear bb))
      clear k0
      go_wp2
      go_roundg (l.length - (k + 1))
      case measure => have := HN.out; omega
      case rel => exact ⟨k + 1, by omega, by go_num, rfl, HW.out.trans (P2.out.mono HW.out.size)⟩
    · obtain rfl : k = l.length := by omega
      go_wp2
      go_ret
      exact ⟨rfl, HW.out⟩
set_option maxRecDepth 100000 in
set_option maxHeartbeats 1600000 in
theorem same07_step (t : Tm) (va vb : Value) (w : World) (ha : TmAt (fun _ => True) w t va) (hb : TmAt (fun _ => True) w t vb) (hC : ∀ u ∈ t.args, SameC07 u) :
    Calls Try.prog 26 #[tmV t va, tmV t vb] w fun e w' => e = .returned (.bool true) ∧ Below w.heap.size w w' := by
  obtain ⟨ao, ca, rfl, _, _⟩ := ha.shape
  obtain ⟨bo, cb, rfl, _, _⟩ := hb.shape
  have B2 := Lib.hid (below_two w (.cells #[.int .i64 t.kind, .int .i64 t.num, .string t.name, .slice ao t.args.length ca] 24) (.cells #[.int .i64 t.kind, .int .i64 t.num, .string t.name, .slice bo t.args.length cb] 24))
  have CC : Hid (Calls Try.prog 33 #[.slice ao t.args.length ca, .slice bo t.args.length cb] ((w.alloc (.cells #[.int .i64 t.kind, .int .i64 t.num, .string t.name, .slice ao t.args.length ca] 24)).alloc (.cells #[.int .i64 t.kind, .int .i64 t.num, .string t.name, .slice bo t.args.length cb] 24)) fun e w' => e = .returned (.bool true) ∧ Below w.heap.size w w') :=
    (sames07_c _ _ t.args _ (TsAt.of_tm (ha.later B2.out)) (TsAt.of_tm (hb.later B2.out)) hC).mono fun e w' ⟨h1, h2⟩ => ⟨h1, B2.out.trans (h2.mono B2.out.size)⟩
  unfold tmV
  clear ha hb hC
  have hs : (t.name.toList == t.name.toList) = true := by simp
  generalize t.kind = x0 at *
  generalize t.num = x1 at *
  generalize t.name = x2 at *
  generalize t.args.length = x3 at *
  go_enter Try.func26, Try.ntmps26
  go_wp2_with (first | (go_at_call 33; ((with_reducible refine CC.out.mono ?_); rintro e W2 ⟨rfl, bb⟩; have BB := Lib.hid bb; clear bb)))
  go_ret
  exact ⟨rfl, BB.out⟩
theorem same07_all (t : Tm) : SameC07 t := by
  induction t using Tm.ind with
  | h4 s l ih => exact fun va vb w ha hb => same07_step _ va vb w ha hb ih
  | _ => exact fun va vb w ha hb => same07_step _ va vb w ha hb (by simp [Tm.args])
end Go.Proofs.Ytmffobadnmkpbaa
