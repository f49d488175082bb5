/-
  term.mapped, walked with the function value of Copy.
  term.copied: a term made anew.
  term.Subst$1: a variable's own term.
  A term with other variables is its variant just if they are renamed one to one: in plain Lean.
  A list of bytes that stays; coneylaw07.place.
-/
import Derived.Test.YtmffobadnmkpbaaKtmc4
import Derived.Laws.OwnMore
import Derived.Deep.RegionLaw
import Derived.Test.YtmffobadnmkpbaaKtmc3
namespace Go.Proofs.Ytmffobadnmkpbaa
open Go.RowKit

def MapCopy (S : World → Prop) (σ : Nat → Tm) (t : Tm) : Prop := ∀ (va : Value) (w : World), TmAt (fun _ => True) w t va → t.ok → S w → t.size ≤ 1000000 → Calls Try.prog 72 #[tmV t va, .func (.func 108) #[] #[]] w (RetTm7 (mapT σ t) w)
set_option maxRecDepth 100000 in
set_option maxHeartbeats 6400000 in
theorem mapCopy_step (S : World → Prop) (σ : Nat → Tm) (hS : ∀ w W, S w → Below w.heap.size w W → S W)
    (hF : ∀ (n : Nat) (W : World), S W → Calls Try.prog 108 #[.agg #[.int .i64 1, .int .i64 n, .string ByteArray.empty, .slice none 0 0]] W (RetTm7 (σ n) W))
    (t : Tm) (va : Value) (w : World) (ht : TmAt (fun _ => True) w t va) (hok : t.ok) (hs : S w) (hn : t.size ≤ 1000000) (hC : ∀ u ∈ t.args, MapCopy S σ u) :
    Calls Try.prog 72 #[tmV t va, .func (.func 108) #[] #[]] w (RetTm7 (mapT σ t) w) := by
  have h4 := fun h => ht.nil_of h
  obtain ⟨ao, cc, rfl, hc1, hc2⟩ := ht.shape
  obtain ⟨i0, hi, hz0, hz1, hz2⟩ := info_parts Try.infoTerm
  have al : ∀ (W : World) (o : Obj) (B : Nat), B ≤ W.heap.size → Below B W (W.alloc o) := fun W o B h => (Below.refl B W).alloc h o
  have AL := Lib.hid al
  have HSS := Lib.hid hS
  have HSW := Lib.hid hs
  obtain ⟨V, hV⟩ : ∃ V, V = ((w.alloc (.cells #[.int .i64 t.kind, .int .i64 t.num, .string t.name, .slice ao t.args.length cc] 24)).alloc (.cells #[.int .i64 0, .int .i64 0, .string ⟨#[]⟩, .slice none 0 0] 24)) := ⟨_, rfl⟩
  have BV : Hid (Below w.heap.size w V) := by rw [hV]; exact (al _ _ _ (Nat.le_refl _)).trans (al _ _ _ (by simp))
  have hsV : V.heap.size = w.heap.size + 2 := by rw [hV]; simp
  have XV : Hid (BoxL V w.heap.size [.int .i64 t.kind, .int .i64 t.num, .string t.name, .slice ao t.args.length cc]) := by rw [hV]; exact (BoxL.mk' w #[.int .i64 t.kind, .int .i64 t.num, .string t.name, .slice ao t.args.length cc] 24).below (al _ _ (w.heap.size + 1) (by simp)) (by omega)
  have ZV : Hid (BoxL V (w.heap.size + 1) [.int .i64 0, .int .i64 0, .string ⟨#[]⟩, .slice none 0 0]) := by
    rw [hV]
    have h := BoxL.mk' (w.alloc (.cells #[.int .i64 t.kind, .int .i64 t.num, .string t.name, .slice ao t.args.length cc] 24)) #[.int .i64 0, .int .i64 0, .string ⟨#[]⟩, .slice none 0 0] 24
    simp only [World.size_alloc] at h
    exact h
  have HS := Lib.hid hsV
  obtain ⟨⟨x0, x1, x2, x3⟩, _⟩ := box4c XV.out
  obtain ⟨⟨z0, z1, z2, z3⟩, f0, f1, f2, f3⟩ := box4c ZV.out
  by_cases hk : t.kind = 1
  · obtain ⟨n, rfl, hn5⟩ := Tm.ok_var hok hk
    have CP : Hid (∀ W, Below w.heap.size w W → Calls Try.prog 108 #[.agg #[.int .i64 1, .int .i64 n, .string ByteArray.empty, .slice none 0 0]] W fun e w' => ∃ pa qa, e = .returned (.agg #[.int .i64 (σ n).kind, .int .i64 (σ n).num, .string (σ n).name, .slice pa (σ n).args.length qa]) ∧ TmAt (fun b => W.heap.size ≤ b) w' (σ n) (.slice pa (σ n).args.length qa) ∧ Below W.heap.size W w') := fun W h => hF n W (hS w W hs h)
    have he := h4 (by simp [Tm.kind])
    simp only [Value.slice.injEq, Tm.args, List.length_nil] at he
    obtain ⟨rfl, -, rfl⟩ := he
    have hG : mapT σ (.var n) = σ n := by simp only [mapT]
    rw [hG]
    generalize σ n = G at *
    change Calls _ _ #[.agg #[.int .i64 1, .int .i64 n, .string ByteArray.empty, .slice none 0 0], _] _ (RetTm7 G w)
    have x0' : V.cell? ⟨w.heap.size, 0, none⟩ = some (.int .i64 1) := x0
    have x1' : V.cell? ⟨w.heap.size, 1, none⟩ = some (.int .i64 n) := x1
    have x2' : V.cell? ⟨w.heap.size, 2, none⟩ = some (.string ByteArray.empty) := x2
    have x3' : V.cell? ⟨w.heap.size, 3, none⟩ = some (.slice none 0 0) := x3
    have hV' : V = ((w.alloc (.cells #[.int .i64 1, .int .i64 n, .string ByteArray.empty, .slice none 0 0] 24)).alloc (.cells #[.int .i64 0, .int .i64 0, .string ⟨#[]⟩, .slice none 0 0] 24)) := hV
    clear ht hok hs hn hC h4 hk hc1 hc2 hV hsV hG hF hS x0 x1 x2 x3 al
    go_enter Try.func72, Try.ntmps72
    go_upto_region 1 with (fail)
    rw [← hV']
    clear hV'
    go_wp2_with (first | (go_at_call 108; ((with_reducible refine (CP.out _ BV.out).mono ?_); rintro e W2 ⟨pa, qa, rfl, tg, bb⟩; have Z2 := Lib.hid (ZV.out.block (bb.block _ (by have := HS.out; omega))); have B2 := Lib.hid (BV.out.trans (bb.mono BV.out.size)); have TG := Lib.hid tg; clear z0 z1 z2 z3 f0 f1 f2 f3; obtain ⟨⟨z0, z1, z2, z3⟩, f0, f1, f2, f3⟩ := box4c Z2.out; clear bb tg)))
    refine post_gen7 fun W9 hW9 => ?_
    have hr := Res4.mk' (W9 := W9) (G := G) (a := .slice pa G.args.length qa) Z2.out B2.out (TG.out.mono fun b _ hp => ⟨by have := HS.out; omega, rfl⟩) hW9
    clear z0 z1 z2 z3 f0 f1 f2 f3
    obtain ⟨⟨z0, z1, z2, z3⟩, -⟩ := box4c hr.box
    refine bodyPost_ret (v := .agg #[.int .i64 G.kind, .int .i64 G.num, .string G.name, .slice pa G.args.length qa]) (by simp [results, Try.results72, go_sem, z0, z1, z2, z3]; try rfl) rfl ?_
    exact ⟨pa, qa, rfl, hr.at', hr.bel⟩
  · have hkb : (t.kind == 1) = false := by simpa using hk
    by_cases hk4 : t.kind = 4
    · obtain ⟨s, l, rfl⟩ : ∃ s l, t = .cmp s l := by cases t <;> simp [Tm.kind] at hk4; exact ⟨_, _, rfl⟩
      have hl0 : 0 < l.length := by cases hok; assumption
      have HT := Lib.hid (TsAt.of_tm ht)
      have HC := Lib.hid hC
      have HOK := Lib.hid (Tm.ok_args hok)
      have HSZ : Hid (∀ u ∈ l, u.size ≤ 1000000) := fun u hu => by have := Tm.args_size (t := .cmp s l) (u := u) hu; omega
      have hll : l.length ≤ 1000000 := by have h1 := Tm.sizes_len l; simp only [Tm.size] at hn; omega
      simp only [Tm.args] at HT HC HOK
      rw [show mapT σ (.cmp s l) = .cmp s (mapTs σ l) from by simp only [mapT]]
      change Calls _ _ #[.agg #[.int .i64 4, .int .i64 0, .string s, .slice ao l.length cc], _] _ _
      have XV' : Hid (BoxL V w.heap.size [.int .i64 4, .int .i64 0, .string s, .slice ao l.length cc]) := XV
      have hV' : V = ((w.alloc (.cells #[.int .i64 4, .int .i64 0, .string s, .slice ao l.length cc] 24)).alloc (.cells #[.int .i64 0, .int .i64 0, .string ⟨#[]⟩, .slice none 0 0] 24)) := hV
      clear x0 x1 x2 x3
      obtain ⟨⟨x0, x1, x2, x3⟩, _⟩ := box4c XV'.out
      obtain ⟨W3, hmk, ho3, hg3⟩ := run_make_full (P := Try.prog) (w := V) (w.heap.size + 2) 22 24 i0 (.agg #[.int .i64 0, .int .i64 0, .string ByteArray.empty, .slice none 0 0]) 4 Try.underlying22 hi hz0 hz1 .i64 .i64 l.length (by rw [hz2]; omega) (by unfold maxLen; omega) (by omega)
      rw [hsV] at hmk ho3
      have N0 : Hid (ML (w.heap.size + 2) (w.heap.size + 2) l.length V W3 (List.replicate l.length zeroTV)) := by
        have hb : Below (w.heap.size + 2) V W3 := (Below.refl _ V).grown hg3 (by omega) (by simp)
        refine ⟨⟨?_, fun x hx => ?_⟩, by simp, hb, by have := hb.size; omega⟩
        · rw [tmCs_rep] at ho3; simpa using ho3
        · obtain ⟨-, rfl⟩ := List.mem_replicate.1 hx; exact .leaf rfl
      have hk1 : ((4 : Int) == 1) = false := rfl
      clear ht hok hs hn hC h4 hk hk4 hkb hc1 hc2 hV XV al hF hS ho3 hg3
      go_enter Try.func72, Try.ntmps72
      go_upto_region 1 with (fail)
      rw [← hV']
      clear hV'
      go_upto_region 6 with (fail)
      clear hmk x0 x1 x2 x3 z0 z1 z2 z3 f0 f1 f2 f3
      have X3 := XV'.out.block (N0.out.bel.block _ (by omega))
      obtain ⟨⟨x0, x1, x2, x3⟩, _⟩ := box4c X3
      clear hsV X3
      go_wp2
      go_loopg [24] l.length (fun n i wr => ∃ (k : Nat) (Q : List (Tm × Value)), k ≤ l.length ∧ i = .int .i64 k ∧ Hid (n = l.length - k) ∧ Hid (ML (w.heap.size + 2) (w.heap.size + 2) l.length V wr Q) ∧ Hid (Q.map Prod.fst = fillT σ l k))
      case atStart => exact ⟨0, _, by omega, rfl, rfl, N0, Lib.hid (by rw [fillT_zero, List.map_replicate]; rfl)⟩
      case round =>
        obtain ⟨k, Q, hk, rfl, HN, HW, HQ⟩ := hrel
        have HBw : Hid (Below w.heap.size w wr) := BV.out.trans (HW.out.bel.mono (by omega))
        have hXw := XV'.out.block (HW.out.bel.block _ (by have := HS.out; omega))
        clear x0 x1 x2 x3
        obtain ⟨⟨x0, x1, x2, x3⟩, _⟩ := box4c hXw
        have hwz := HW.out.sz
        by_cases hlt : k < l.length
        · have hki : (k : Int) < l.length := by omega
          obtain ⟨b, off, a1, rfl, -, hcc, hta⟩ := (HT.out.later HBw.out).get k hlt
          obtain ⟨p1, q1, rfl, _⟩ := hta.shape
          have hbl := hcc.lt
          have CX := Lib.hid (HC.out l[k] (List.getElem_mem hlt))
          have hou := HOK.out l[k] (List.getElem_mem hlt)
          have hsu := HSZ.out l[k] (List.getElem_mem hlt)
          have HQ2 : Hid (∀ q, (Q.set k (mapT σ l[k], q)).map Prod.fst = fillT σ l (k + 1)) := fun q => by rw [List.map_set, HQ.out, fillT_step σ l k hlt]
          generalize l[k] = u at *
          obtain ⟨c0, c1, c2, c3⟩ := hcc
          have CC : Hid (∀ W, Below wr.heap.size wr W → Calls Try.prog 72 #[.agg #[.int .i64 u.kind, .int .i64 u.num, .string u.name, .slice p1 u.args.length q1], .func (.func 108) #[] #[]] W fun e w' => ∃ pa qa, e = .returned (.agg #[.int .i64 (mapT σ u).kind, .int .i64 (mapT σ u).num, .string (mapT σ u).name, .slice pa (mapT σ u).args.length qa]) ∧ TmAt (fun b => wr.heap.size ≤ b) w' (mapT σ u) (.slice pa (mapT σ u).args.length qa) ∧ Below wr.heap.size wr w') := fun W h =>
            (CX.out _ W (hta.later h) hou (HSS.out w W HSW.out (HBw.out.trans (h.mono HBw.out.size))) hsu).mono fun e w' ⟨pa, qa, h1, h2, h3⟩ => ⟨pa, qa, h1, h2.mono fun b _ hp => ⟨Nat.le_trans h.size hp, rfl⟩, h.trans (h3.mono h.size)⟩
          generalize mapT σ u = G at *
          have hgz : w.heap.size + 2 < wr.heap.size := by obtain ⟨v0, v1, v2, v3, ⟨y0, -⟩, -⟩ := HW.out.cells k hlt; exact World.block_lt_of_cell? wr ⟨_, _, none⟩ y0
          clear hta CX hou hsu hXw
          go_wp2_with (first | (go_at_call 72; ((with_reducible refine (CC.out _ ?_).mono ?_); (· go_grown); rintro e W2 ⟨pa, qa, rfl, tg, bb⟩; have N2 := Lib.hid (HW.out.below bb); have TG := Lib.hid tg; obtain ⟨v0, v1, v2, v3, ⟨y0, y1, y2, y3⟩, hfz⟩ := N2.out.cells k hlt; have g0 := hfz (k * 4); have g1 := hfz (k * 4 + 1); have g2 := hfz (k * 4 + 2); have g3 := hfz (k * 4 + 3); clear bb tg hfz)))
          all_goals
            go_roundg (l.length - (k + 1))
            case measure => have := HN.out; omega
            case rel => exact ⟨k + 1, _, by omega, by go_num, rfl, Lib.hid (N2.out.store (Nat.le_refl _) hlt (TG.out.mono fun b _ hp => ⟨⟨by omega, by omega⟩, rfl⟩)), HQ2.out _⟩
        · obtain rfl : k = l.length := by omega
          have HQ3 : Hid (Q.map Prod.fst = mapTs σ l) := by have h := HQ.out; rw [fillT_all] at h; exact h
          have HQE : Hid (l.length = (Tm.cmp s (mapTs σ l)).args.length) := by show _ = _; simp [Tm.args, mapTs_eq]
          have HQL := HW.out.len
          have ZX := Lib.hid (ZV.out.block (HW.out.bel.block _ (by have := HS.out; omega)))
          obtain ⟨⟨z0, z1, z2, z3⟩, f0, f1, f2, f3⟩ := box4c ZX.out
          have HAT : Hid (TmAt (fun b => w.heap.size + 2 ≤ b) wr (.cmp s (mapTs σ l)) (.slice (some ⟨w.heap.size + 2, 0, none⟩) l.length l.length)) := HW.out.own.tm (fun _ h => h) s HQ3.out (by rw [mapTs_eq, List.length_map]; exact hl0)
          clear HQL
          go_wp2
          refine post_gen7 fun W9 hW9 => ?_
          have hr := Res4.mk' (W9 := W9) (G := .cmp s (mapTs σ l)) (a := .slice (some ⟨w.heap.size + 2, 0, none⟩) l.length l.length) ZX.out HBw.out HAT.out hW9
          clear z0 z1 z2 z3 f0 f1 f2 f3
          obtain ⟨⟨z0, z1, z2, z3⟩, -⟩ := box4c hr.box
          simp only [Tm.kind, Tm.num, Tm.name] at z0 z1 z2
          refine bodyPost_ret (v := .agg #[.int .i64 4, .int .i64 0, .string s, .slice (some ⟨w.heap.size + 2, 0, none⟩) l.length l.length]) (by simp [results, Try.results72, go_sem, z0, z1, z2, z3]; try rfl) rfl ?_
          have h9 := hr.at'
          refine ⟨some ⟨w.heap.size + 2, 0, none⟩, l.length, congrArg (fun n => Ending.returned (.agg #[.int .i64 4, .int .i64 0, .string s, .slice (some ⟨w.heap.size + 2, 0, none⟩) n l.length])) HQE.out, ?_, hr.bel⟩
          rw [← HQE.out]; exact h9
    · have hk4b : (t.kind == 4) = false := by simpa using hk4
      have hG : mapT σ t = t := by cases t <;> simp [Tm.kind] at hk hk4 <;> simp [mapT]
      rw [hG]
      have hlf : t.args = [] := Tm.args_kind hk4
      have HLF := Lib.hid hlf
      have he := h4 hk4
      simp only [Value.slice.injEq] at he
      obtain ⟨rfl, -, rfl⟩ := he
      have hl0 : t.args.length = 0 := by rw [hlf]; rfl
      unfold tmV
      clear ht hok hs hn hC h4 hk hk4 hc1 hc2 hG hlf al hF hS
      generalize hz : t.args.length = z at *
      subst hl0
      go_enter Try.func72, Try.ntmps72
      go_upto_region 1 with (fail)
      rw [← hV]
      clear hV hsV
      go_wp2
      refine post_gen7 fun W9 hW9 => ?_
      have hr := Res4.mk' (W9 := W9) (G := t) (a := .slice none 0 0) ZV.out BV.out (.leaf HLF.out) hW9
      clear z0 z1 z2 z3 f0 f1 f2 f3
      obtain ⟨⟨z0, z1, z2, z3⟩, -⟩ := box4c hr.box
      refine bodyPost_ret (v := .agg #[.int .i64 t.kind, .int .i64 t.num, .string t.name, .slice none 0 0]) (by simp [results, Try.results72, go_sem, z0, z1, z2, z3]; try rfl) rfl ?_
      have h9 := hr.at'
      exact ⟨none, 0, by rw [hz], by rw [hz]; exact h9, hr.bel⟩
theorem mapCopy_all (S : World → Prop) (σ : Nat → Tm) (hS : ∀ w W, S w → Below w.heap.size w W → S W)
    (hF : ∀ (n : Nat) (W : World), S W → Calls Try.prog 108 #[.agg #[.int .i64 1, .int .i64 n, .string ByteArray.empty, .slice none 0 0]] W (RetTm7 (σ n) W)) (t : Tm) : MapCopy S σ t := by
  induction t using Tm.ind with
  | h4 s l ih => exact fun va w ht hok hs hn => mapCopy_step S σ hS hF _ va w ht hok hs hn ih
  | _ => exact fun va w ht hok hs hn => mapCopy_step S σ hS hF _ va w ht hok hs hn (by simp [Tm.args])
end Go.Proofs.Ytmffobadnmkpbaa
namespace Go.Proofs.Ytmffobadnmkpbaa
open Go.RowKit

theorem res4g {w W W9 : World} {r : Nat} {x0 x1 x2 x3 : Value} (hr : w.heap.size ≤ r) (hx : BoxL W r [x0, x1, x2, x3]) (hb : Below w.heap.size w W) {G : Tm} {a : Value} (ht : TmAt (fun b => r < b) W G a)
    (h9 : W9 = ((((W.setCell ⟨r, 0, none⟩ (.int .i64 G.kind)).setCell ⟨r, 1, none⟩ (.int .i64 G.num)).setCell ⟨r, 2, none⟩ (.string G.name)).setCell ⟨r, 3, none⟩ a)) : BoxL W9 r [.int .i64 G.kind, .int .i64 G.num, .string G.name, a] ∧ TmAt (fun b => w.heap.size ≤ b) W9 G a ∧ Below w.heap.size w W9 := by
  subst h9
  exact ⟨box4set hx _ _ _ _, ht.mono fun b _ hp => ⟨by omega, heap_set4 _ _ _ _ _ _ (by omega)⟩, below4 hb (by omega) _ _ _ _⟩

set_option maxRecDepth 100000 in
set_option maxHeartbeats 1600000 in
theorem copied1_c (n : Nat) (w : World) : Calls Try.prog 108 #[.agg #[.int .i64 1, .int .i64 n, .string ByteArray.empty, .slice none 0 0]] w (RetTm7 (.var n) w) := by
  obtain ⟨V, hV⟩ : ∃ V, V = ((w.alloc (.cells #[.int .i64 1, .int .i64 n, .string ByteArray.empty, .slice none 0 0] 24)).alloc (.cells #[.int .i64 0, .int .i64 0, .string ⟨#[]⟩, .slice none 0 0] 24)) := ⟨_, rfl⟩
  have al : ∀ (W : World) (o : Obj) (B : Nat), B ≤ W.heap.size → Below B W (W.alloc o) := fun W o B h => (Below.refl B W).alloc h o
  have BV : Hid (Below w.heap.size w V) := by rw [hV]; exact (al _ _ _ (Nat.le_refl _)).trans (al _ _ _ (by simp))
  have hsV : V.heap.size = w.heap.size + 2 := by rw [hV]; simp
  have XV : Hid (BoxL V w.heap.size [.int .i64 1, .int .i64 n, .string ByteArray.empty, .slice none 0 0]) := by rw [hV]; exact (BoxL.mk' w #[.int .i64 1, .int .i64 n, .string ByteArray.empty, .slice none 0 0] 24).below (al _ _ (w.heap.size + 1) (by simp)) (by omega)
  have ZV : Hid (BoxL V (w.heap.size + 1) [.int .i64 0, .int .i64 0, .string ⟨#[]⟩, .slice none 0 0]) := by
    rw [hV]
    have h := BoxL.mk' (w.alloc (.cells #[.int .i64 1, .int .i64 n, .string ByteArray.empty, .slice none 0 0] 24)) #[.int .i64 0, .int .i64 0, .string ⟨#[]⟩, .slice none 0 0] 24
    simp only [World.size_alloc] at h
    exact h
  obtain ⟨⟨x0, x1, x2, x3⟩, _⟩ := box4c XV.out
  obtain ⟨⟨z0, z1, z2, z3⟩, f0, f1, f2, f3⟩ := box4c ZV.out
  clear al
  go_enter Try.func108, Try.ntmps108
  go_upto_region 1 with (fail)
  rw [← hV]
  clear hV hsV
  go_wp2
  refine post_gen7 fun W9 hW9 => ?_
  have hr := Res4.mk' (W9 := W9) (G := .var n) (a := .slice none 0 0) ZV.out BV.out (.leaf rfl) hW9
  clear z0 z1 z2 z3 f0 f1 f2 f3
  obtain ⟨⟨z0, z1, z2, z3⟩, -⟩ := box4c hr.box
  simp only [Tm.kind, Tm.num, Tm.name] at z0 z1 z2
  refine bodyPost_ret (v := .agg #[.int .i64 1, .int .i64 n, .string ByteArray.empty, .slice none 0 0]) (by simp [results, Try.results108, go_sem, z0, z1, z2, z3]; try rfl) rfl ?_
  exact ⟨none, 0, rfl, hr.at', hr.bel⟩
set_option maxRecDepth 100000 in
set_option maxHeartbeats 1600000 in
theorem copied_c (t : Tm) (va : Value) (w : World) (ht : TmAt (fun _ => True) w t va) (hok : t.ok) (hn : t.size ≤ 1000000) : Calls Try.prog 74 #[tmV t va] w (RetTm7 t w) := by
  obtain ⟨ao, cc, rfl, hc1, hc2⟩ := ht.shape
  have CM : Hid (∀ W, Below w.heap.size w W → Calls Try.prog 72 #[.agg #[.int .i64 t.kind, .int .i64 t.num, .string t.name, .slice ao t.args.length cc], .func (.func 108) #[] #[]] W fun e w' => ∃ pa qa, e = .returned (.agg #[.int .i64 t.kind, .int .i64 t.num, .string t.name, .slice pa t.args.length qa]) ∧ TmAt (fun b => W.heap.size ≤ b) w' t (.slice pa t.args.length qa) ∧ Below W.heap.size W w') := fun W h => by
    have h := mapCopy_all (fun _ => True) .var (fun _ _ _ _ => trivial) (fun n W _ => copied1_c n W) t _ W (ht.later h) hok trivial hn
    rw [mapT_id] at h
    exact h
  obtain ⟨V, hV⟩ : ∃ V, V = ((w.alloc (.cells #[.int .i64 t.kind, .int .i64 t.num, .string t.name, .slice ao t.args.length cc] 24)).alloc (.cells #[.int .i64 0, .int .i64 0, .string ⟨#[]⟩, .slice none 0 0] 24)) := ⟨_, rfl⟩
  have al : ∀ (W : World) (o : Obj) (B : Nat), B ≤ W.heap.size → Below B W (W.alloc o) := fun W o B h => (Below.refl B W).alloc h o
  have BV : Hid (Below w.heap.size w V) := by rw [hV]; exact (al _ _ _ (Nat.le_refl _)).trans (al _ _ _ (by simp))
  have hsV : V.heap.size = w.heap.size + 2 := by rw [hV]; simp
  have XV : Hid (BoxL V w.heap.size [.int .i64 t.kind, .int .i64 t.num, .string t.name, .slice ao t.args.length cc]) := by rw [hV]; exact (BoxL.mk' w #[.int .i64 t.kind, .int .i64 t.num, .string t.name, .slice ao t.args.length cc] 24).below (al _ _ (w.heap.size + 1) (by simp)) (by omega)
  have ZV : Hid (BoxL V (w.heap.size + 1) [.int .i64 0, .int .i64 0, .string ⟨#[]⟩, .slice none 0 0]) := by
    rw [hV]
    have h := BoxL.mk' (w.alloc (.cells #[.int .i64 t.kind, .int .i64 t.num, .string t.name, .slice ao t.args.length cc] 24)) #[.int .i64 0, .int .i64 0, .string ⟨#[]⟩, .slice none 0 0] 24
    simp only [World.size_alloc] at h
    exact h
  have HS := Lib.hid hsV
  obtain ⟨⟨x0, x1, x2, x3⟩, _⟩ := box4c XV.out
  unfold tmV
  clear al ht hok hn hc1 hc2
  go_enter Try.func74, Try.ntmps74
  go_upto_region 1 with (fail)
  rw [← hV]
  clear hV hsV
  go_wp2_with (first | (go_at_call 72; ((with_reducible refine (CM.out _ BV.out).mono ?_); rintro e W2 ⟨pa, qa, rfl, tg, bb⟩; have Z2 := Lib.hid (ZV.out.block (bb.block _ (by have := HS.out; omega))); have B2 := Lib.hid (BV.out.trans (bb.mono BV.out.size)); have TG := Lib.hid tg; obtain ⟨⟨z0, z1, z2, z3⟩, f0, f1, f2, f3⟩ := box4c Z2.out; clear bb tg)))
  refine post_gen7 fun W9 hW9 => ?_
  have hr := Res4.mk' (W9 := W9) (G := t) (a := .slice pa t.args.length qa) Z2.out B2.out (TG.out.mono fun b _ hp => ⟨by have := HS.out; omega, rfl⟩) hW9
  clear z0 z1 z2 z3 f0 f1 f2 f3
  obtain ⟨⟨z0, z1, z2, z3⟩, -⟩ := box4c hr.box
  refine bodyPost_ret (v := .agg #[.int .i64 t.kind, .int .i64 t.num, .string t.name, .slice pa t.args.length qa]) (by simp [results, Try.results74, go_sem, z0, z1, z2, z3]; try rfl) rfl ?_
  exact ⟨pa, qa, rfl, hr.at', hr.bel⟩
end Go.Proofs.Ytmffobadnmkpbaa
namespace Go.Proofs.Ytmffobadnmkpbaa
open Go.RowKit

/-- what a variable becomes -/
def sigL (L : List Tm) (n : Nat) : Tm := if h : n < L.length then (if L[n].kind = 0 then .var n else L[n]) else .var n
structure SubS (bx : Nat) (lv : Value) (L : List Tm) (w : World) : Prop where
  box : BoxL w bx [lv]
  ts : TsAt (fun _ => True) w lv L
theorem SubS.later {bx : Nat} {lv : Value} {L : List Tm} (w W : World) (h : SubS bx lv L w) (hb : Below w.heap.size w W) : SubS bx lv L W := ⟨h.box.block (hb.block _ (h.box.lt (by simp))), h.ts.later hb⟩

set_option maxRecDepth 100000 in
set_option maxHeartbeats 3200000 in
theorem subst1_c (bx : Nat) (lv : Value) (L : List Tm) (hlo : ∀ t ∈ L, t.ok ∧ t.size ≤ 1000000) (n : Nat) (w : World) (hs : SubS bx lv L w) : Calls Try.prog 73 #[.agg #[.int .i64 1, .int .i64 n, .string ByteArray.empty, .slice none 0 0], .pointer (some ⟨bx, 0, none⟩)] w (RetTm7 (sigL L n) w) := by
  obtain ⟨lo, lc, rfl, hlc, _⟩ := hs.ts.shape
  obtain ⟨V, hV⟩ : ∃ V, V = ((w.alloc (.cells #[.int .i64 1, .int .i64 n, .string ByteArray.empty, .slice none 0 0] 24)).alloc (.cells #[.int .i64 0, .int .i64 0, .string ⟨#[]⟩, .slice none 0 0] 24)) := ⟨_, rfl⟩
  have al : ∀ (W : World) (o : Obj) (B : Nat), B ≤ W.heap.size → Below B W (W.alloc o) := fun W o B h => (Below.refl B W).alloc h o
  have BV : Hid (Below w.heap.size w V) := by rw [hV]; exact (al _ _ _ (Nat.le_refl _)).trans (al _ _ _ (by simp))
  have hsV : V.heap.size = w.heap.size + 2 := by rw [hV]; simp
  have XV : Hid (BoxL V w.heap.size [.int .i64 1, .int .i64 n, .string ByteArray.empty, .slice none 0 0]) := by rw [hV]; exact (BoxL.mk' w #[.int .i64 1, .int .i64 n, .string ByteArray.empty, .slice none 0 0] 24).below (al _ _ (w.heap.size + 1) (by simp)) (by omega)
  have ZV : Hid (BoxL V (w.heap.size + 1) [.int .i64 0, .int .i64 0, .string ⟨#[]⟩, .slice none 0 0]) := by
    rw [hV]
    have h := BoxL.mk' (w.alloc (.cells #[.int .i64 1, .int .i64 n, .string ByteArray.empty, .slice none 0 0] 24)) #[.int .i64 0, .int .i64 0, .string ⟨#[]⟩, .slice none 0 0] 24
    simp only [World.size_alloc] at h
    exact h
  have HS := Lib.hid hsV
  have SV := hs.later _ _ BV.out
  have k0 := (SV.box.get 0 rfl).1
  obtain ⟨⟨x0, x1, x2, x3⟩, _⟩ := box4c XV.out
  obtain ⟨⟨z0, z1, z2, z3⟩, f0, f1, f2, f3⟩ := box4c ZV.out
  by_cases hlt : n < L.length ∧ (∀ h : n < L.length, L[n].kind ≠ 0)
  · obtain ⟨hlt, hkd⟩ := hlt
    have hG : sigL L n = L[n] := by unfold sigL; rw [dif_pos hlt, if_neg (hkd hlt)]
    rw [hG]
    have hki : (n : Int) < L.length := by omega
    have hok := hlo L[n] (List.getElem_mem hlt)
    obtain ⟨b, off, a1, rfl, -, hcc, hta⟩ := SV.ts.get n hlt
    have hkd := hkd hlt
    generalize L[n] = u at *
    obtain ⟨p1, q1, rfl, _⟩ := hta.shape
    have CM : Hid (Calls Try.prog 74 #[.agg #[.int .i64 u.kind, .int .i64 u.num, .string u.name, .slice p1 u.args.length q1]] V fun e w' => ∃ pa qa, e = .returned (.agg #[.int .i64 u.kind, .int .i64 u.num, .string u.name, .slice pa u.args.length qa]) ∧ TmAt (fun b => V.heap.size ≤ b) w' u (.slice pa u.args.length qa) ∧ Below V.heap.size V w') := copied_c u _ V hta hok.1 hok.2
    obtain ⟨c0, c1, c2, c3⟩ := hcc
    have hkb : (u.kind == 0) = false := by simpa using hkd
    clear al hlo hs hG hta hok SV
    go_enter Try.func73, Try.ntmps73
    go_upto_region 1 with (fail)
    rw [← hV]
    clear hV hsV
    go_wp2_with (first | (go_at_call 74; ((with_reducible refine CM.out.mono ?_); rintro e W2 ⟨pa, qa, rfl, tg, bb⟩; have Z2 := Lib.hid (ZV.out.block (bb.block _ (by have := HS.out; omega))); have B2 := Lib.hid (BV.out.trans (bb.mono BV.out.size)); have TG := Lib.hid tg; clear z0 z1 z2 z3 f0 f1 f2 f3; obtain ⟨⟨z0, z1, z2, z3⟩, f0, f1, f2, f3⟩ := box4c Z2.out; clear bb tg)))
    refine post_gen7 fun W9 hW9 => ?_
    have hr := Res4.mk' (W9 := W9) (G := u) (a := .slice pa u.args.length qa) Z2.out B2.out (TG.out.mono fun b _ hp => ⟨by have := HS.out; omega, rfl⟩) hW9
    clear z0 z1 z2 z3 f0 f1 f2 f3
    obtain ⟨⟨z0, z1, z2, z3⟩, -⟩ := box4c hr.box
    refine bodyPost_ret (v := .agg #[.int .i64 u.kind, .int .i64 u.num, .string u.name, .slice pa u.args.length qa]) (by simp [results, Try.results73, go_sem, z0, z1, z2, z3]; try rfl) rfl ?_
    exact ⟨pa, qa, rfl, hr.at', hr.bel⟩
  · have hG : sigL L n = .var n := by
      unfold sigL
      by_cases h : n < L.length
      · rw [dif_pos h]
        by_cases h2 : L[n].kind = 0
        · rw [if_pos h2]
        · exact absurd ⟨h, fun _ => h2⟩ hlt
      · rw [dif_neg h]
    rw [hG]
    clear al hs hG
    by_cases hl2 : n < L.length
    · have hki : (n : Int) < L.length := by omega
      obtain ⟨b, off, a1, rfl, -, ⟨c0, c1, c2, c3⟩, -⟩ := SV.ts.get n hl2
      have h0 : L[n].kind = 0 := Decidable.byContradiction fun h => hlt ⟨hl2, fun _ => h⟩
      rw [h0] at c0
      clear c1 c2 c3 hlt hlo SV h0
      go_enter Try.func73, Try.ntmps73
      go_upto_region 1 with (fail)
      rw [← hV]
      clear hV hsV
      go_wp2
      refine post_gen7 fun W9 hW9 => ?_
      have hr := Res4.mk' (W9 := W9) (G := .var n) (a := .slice none 0 0) ZV.out BV.out (.leaf rfl) hW9
      clear z0 z1 z2 z3 f0 f1 f2 f3
      obtain ⟨⟨z0, z1, z2, z3⟩, -⟩ := box4c hr.box
      simp only [Tm.kind, Tm.num, Tm.name] at z0 z1 z2
      refine bodyPost_ret (v := .agg #[.int .i64 1, .int .i64 n, .string ByteArray.empty, .slice none 0 0]) (by simp [results, Try.results73, go_sem, z0, z1, z2, z3]; try rfl) rfl ?_
      exact ⟨none, 0, rfl, hr.at', hr.bel⟩
    · have hki : ¬ (n : Int) < L.length := by omega
      clear hlt hlo SV hl2
      go_enter Try.func73, Try.ntmps73
      go_upto_region 1 with (fail)
      rw [← hV]
      clear hV hsV
      go_wp2
      refine post_gen7 fun W9 hW9 => ?_
      have hr := Res4.mk' (W9 := W9) (G := .var n) (a := .slice none 0 0) ZV.out BV.out (.leaf rfl) hW9
      clear z0 z1 z2 z3 f0 f1 f2 f3
      obtain ⟨⟨z0, z1, z2, z3⟩, -⟩ := box4c hr.box
      simp only [Tm.kind, Tm.num, Tm.name] at z0 z1 z2
      refine bodyPost_ret (v := .agg #[.int .i64 1, .int .i64 n, .string ByteArray.empty, .slice none 0 0]) (by simp [results, Try.results73, go_sem, z0, z1, z2, z3]; try rfl) rfl ?_
      exact ⟨none, 0, rfl, hr.at', hr.bel⟩
set_option maxRecDepth 100000 in
set_option maxHeartbeats 3200000 in
theorem subst_c (t : Tm) (va lv : Value) (L : List Tm) (w : World) (ht : TmAt (fun _ => True) w t va) (hl : TsAt (fun _ => True) w lv L) (hok : t.ok) (hn : t.size ≤ 1000000) (hlo : ∀ t ∈ L, t.ok ∧ t.size ≤ 1000000) :
    Calls Try.prog 25 #[tmV t va, lv] w (RetTm7 (mapT (sigL L) t) w) := by
  obtain ⟨ao, cc, rfl, hc1, hc2⟩ := ht.shape
  obtain ⟨lo, lc, rfl, -, -⟩ := hl.shape
  obtain ⟨V, hV⟩ : ∃ V, V = (((w.alloc (.cells #[.int .i64 t.kind, .int .i64 t.num, .string t.name, .slice ao t.args.length cc] 24)).alloc (.cells #[.slice lo L.length lc] 22)).alloc (.cells #[.int .i64 0, .int .i64 0, .string ⟨#[]⟩, .slice none 0 0] 24)) := ⟨_, rfl⟩
  have al : ∀ (W : World) (o : Obj) (B : Nat), B ≤ W.heap.size → Below B W (W.alloc o) := fun W o B h => (Below.refl B W).alloc h o
  have BV : Hid (Below w.heap.size w V) := by rw [hV]; exact ((al _ _ _ (Nat.le_refl _)).trans (al _ _ _ (by simp))).trans (al _ _ _ (by simp; omega))
  have hsV : V.heap.size = w.heap.size + 3 := by rw [hV]; simp
  have XV : Hid (BoxL V w.heap.size [.int .i64 t.kind, .int .i64 t.num, .string t.name, .slice ao t.args.length cc]) := by rw [hV]; exact (BoxL.mk' w #[.int .i64 t.kind, .int .i64 t.num, .string t.name, .slice ao t.args.length cc] 24).below ((al _ _ (w.heap.size + 1) (by simp)).trans (al _ _ (w.heap.size + 1) (by simp))) (by omega)
  have YV : Hid (BoxL V (w.heap.size + 1) [.slice lo L.length lc]) := by
    rw [hV]
    have h := (BoxL.mk' (w.alloc (.cells #[.int .i64 t.kind, .int .i64 t.num, .string t.name, .slice ao t.args.length cc] 24)) #[.slice lo L.length lc] 22)
    simp only [World.size_alloc] at h
    exact h.below (al _ _ (w.heap.size + 2) (by simp)) (by omega)
  have ZV : Hid (BoxL V (w.heap.size + 1 + 1) [.int .i64 0, .int .i64 0, .string ⟨#[]⟩, .slice none 0 0]) := by
    rw [hV]
    have h := BoxL.mk' ((w.alloc (.cells #[.int .i64 t.kind, .int .i64 t.num, .string t.name, .slice ao t.args.length cc] 24)).alloc (.cells #[.slice lo L.length lc] 22)) #[.int .i64 0, .int .i64 0, .string ⟨#[]⟩, .slice none 0 0] 24
    simp only [World.size_alloc] at h
    exact h
  have SV : SubS (w.heap.size + 1) (.slice lo L.length lc) L V := ⟨YV.out, hl.later BV.out⟩
  have CM : Hid (Calls Try.prog 72 #[.agg #[.int .i64 t.kind, .int .i64 t.num, .string t.name, .slice ao t.args.length cc], .func (.func 73) #[] #[.pointer (some ⟨w.heap.size + 1, 0, none⟩)]] V fun e w' => ∃ pa qa, e = .returned (.agg #[.int .i64 (mapT (sigL L) t).kind, .int .i64 (mapT (sigL L) t).num, .string (mapT (sigL L) t).name, .slice pa (mapT (sigL L) t).args.length qa]) ∧ TmAt (fun b => V.heap.size ≤ b) w' (mapT (sigL L) t) (.slice pa (mapT (sigL L) t).args.length qa) ∧ Below V.heap.size V w') :=
    mapSub_all (w.heap.size + 1) (SubS (w.heap.size + 1) (.slice lo L.length lc) L) (sigL L) SubS.later (fun n W h => subst1_c _ _ _ hlo n W h) t _ V (ht.later BV.out) hok SV hn
  generalize mapT (sigL L) t = G at *
  have HS := Lib.hid hsV
  obtain ⟨⟨x0, x1, x2, x3⟩, _⟩ := box4c XV.out
  unfold tmV
  clear al ht hok hn hc1 hc2 hl SV hlo
  go_enter Try.func25, Try.ntmps25
  go_upto_region 1 with (fail)
  rw [← hV]
  clear hV hsV
  go_wp2_with (first | (go_at_call 72; ((with_reducible refine CM.out.mono ?_); rintro e W2 ⟨pa, qa, rfl, tg, bb⟩; have Z2 := Lib.hid (ZV.out.block (bb.block _ (by have := HS.out; omega))); have B2 := Lib.hid (BV.out.trans (bb.mono BV.out.size)); have TG := Lib.hid tg; obtain ⟨⟨z0, z1, z2, z3⟩, f0, f1, f2, f3⟩ := box4c Z2.out; clear bb tg)))
  refine post_gen7 fun W9 hW9 => ?_
  have hr := res4g (W9 := W9) (G := G) (a := .slice pa G.args.length qa) (by omega) Z2.out B2.out (TG.out.mono fun b _ hp => ⟨by have := HS.out; omega, rfl⟩) hW9
  clear z0 z1 z2 z3 f0 f1 f2 f3
  obtain ⟨⟨z0, z1, z2, z3⟩, -⟩ := box4c hr.1
  refine bodyPost_ret (v := .agg #[.int .i64 G.kind, .int .i64 G.num, .string G.name, .slice pa G.args.length qa]) (by simp [results, Try.results25, go_sem, z0, z1, z2, z3]; try rfl) rfl ?_
  exact ⟨pa, qa, rfl, hr.2.1, hr.2.2⟩
end Go.Proofs.Ytmffobadnmkpbaa
namespace Go.Proofs.Ytmffobadnmkpbaa
open Go.RowKit

/-- where a variable goes -/
def plI (f : Nat → Nat) (x : Int) : Int := (f x.toNat : Nat)
def renT (f : Nat → Nat) (t : Tm) : Tm := mapT (fun n => .var (f n)) t
theorem sizes_map (g : Tm → Tm) (l : List Tm) (h : ∀ t ∈ l, (g t).size = t.size) : Tm.sizes (l.map g) = Tm.sizes l := by
  induction l with
  | nil => rfl
  | cons t l ih => simp only [List.map_cons, Tm.sizes, h t (by simp), ih (fun u hu => h u (by simp [hu]))]
theorem depths_map (g : Tm → Tm) (l : List Tm) (h : ∀ t ∈ l, (g t).depth = t.depth) : Tm.depths (l.map g) = Tm.depths l := by
  induction l with
  | nil => rfl
  | cons t l ih => simp only [List.map_cons, Tm.depths, h t (by simp), ih (fun u hu => h u (by simp [hu]))]
theorem vss_map (g : Tm → Tm) (q : Int → Int) (l : List Tm) (h : ∀ t ∈ l, (g t).vs = t.vs.map q) : Tm.vss (l.map g) = (Tm.vss l).map q := by
  induction l with
  | nil => rfl
  | cons t l ih => simp only [List.map_cons, Tm.vss, h t (by simp), ih (fun u hu => h u (by simp [hu])), List.map_append]
theorem skL_map (g : Tm → Tm) (l : List Tm) (h : ∀ t ∈ l, skT t (g t) = true) : skL l (l.map g) = true := by
  induction l with
  | nil => rfl
  | cons t l ih => simp only [List.map_cons, skL, h t (by simp), ih (fun u hu => h u (by simp [hu])), Bool.and_self]
theorem ren_size (f : Nat → Nat) (t : Tm) : (renT f t).size = t.size := by
  induction t using Tm.ind with
  | h4 s l ih => simp only [renT, mapT, mapTs_eq, Tm.size]; exact congrArg (1 + ·) (sizes_map _ _ ih)
  | _ => rfl
theorem ren_depth (f : Nat → Nat) (t : Tm) : (renT f t).depth = t.depth := by
  induction t using Tm.ind with
  | h4 s l ih => simp only [renT, mapT, mapTs_eq, Tm.depth]; exact congrArg (· + 1) (depths_map _ _ ih)
  | _ => rfl
theorem ren_vs (f : Nat → Nat) (t : Tm) : (renT f t).vs = t.vs.map (plI f) := by
  induction t using Tm.ind with
  | h4 s l ih => simp only [renT, mapT, mapTs_eq, Tm.vs]; exact vss_map _ _ _ ih
  | _ => simp [renT, mapT, Tm.vs, plI]
theorem ren_sk (f : Nat → Nat) (t : Tm) : skT t (renT f t) = true := by
  induction t using Tm.ind with
  | h4 s l ih => simp only [renT, mapT, mapTs_eq, skT, beq_self_eq_true, Bool.true_and]; exact skL_map _ _ ih
  | _ => simp [renT, mapT, skT]
theorem ren_ok (f : Nat → Nat) (hf : ∀ n, n < 5000 → f n < 5000) (t : Tm) (h : t.ok) : (renT f t).ok := by
  induction t using Tm.ind with
  | h4 s l ih =>
    cases h with
    | cmp h1 h2 h3 =>
      simp only [renT, mapT, mapTs_eq]
      refine .cmp h1 (by simpa using h2) fun u hu => ?_
      obtain ⟨v, hv, rfl⟩ := List.mem_map.1 hu
      exact ih v hv (h3 v hv)
  | _ =>
    cases h <;> simp only [renT, mapT]
    all_goals constructor <;> (first | assumption | (apply hf; assumption))
/-- one to one on a list -/
def InjOn (q : Int → Int) (l : List Int) : Prop := ∀ a ∈ l, ∀ b ∈ l, q a = q b → a = b
theorem addVs_map (q : Int → Int) (X : List Int) (hq : InjOn q X) (l : List Int) : ∀ o : List Int, (∀ x ∈ o, x ∈ X) → (∀ x ∈ l, x ∈ X) → addVs (o.map q) (l.map q) = (addVs o l).map q := by
  induction l with
  | nil => intro o _ _; rfl
  | cons x l ih =>
    intro o ho hl
    have hx := hl x (by simp)
    have e : addV (o.map q) (q x) = (addV o x).map q := by
      unfold addV
      by_cases hxo : x ∈ o
      · rw [if_pos hxo, if_pos (List.mem_map.2 ⟨x, hxo, rfl⟩)]
      · rw [if_neg hxo, if_neg (fun h => by obtain ⟨y, hy, hyq⟩ := List.mem_map.1 h; exact hxo (hq y (ho y hy) x hx hyq ▸ hy))]
        simp
    simp only [List.map_cons, addVs_cons, e]
    refine ih _ (fun y hy => ?_) (fun y hy => hl y (by simp [hy]))
    rcases mem_addV.1 hy with h | rfl
    · exact ho y h
    · exact hx
theorem placeI_map (q : Int → Int) (l : List Int) (a : Int) (hq : ∀ x ∈ l, q x = q a → x = a) : placeI (l.map q) (q a) = placeI l a := by
  induction l with
  | nil => rfl
  | cons x l ih =>
    have h := ih fun y hy => hq y (by simp [hy])
    simp only [List.map_cons, placeI, h]
    by_cases hx : x = a
    · subst hx; simp
    · rw [if_neg hx, if_neg (fun e => hx (hq x (by simp) e))]
theorem ren_variant (f : Nat → Nat) (t : Tm) : variantB t (renT f t) = true ↔ InjOn (plI f) t.vars := by
  have hm : ∀ x, x ∈ t.vars ↔ x ∈ t.vs := fun x => by simp [Tm.vars, mem_addVs]
  rw [variant_iff, num_eq t.vars (renT f t).vars t (renT f t) (fun x hx => mem_addVs.2 (.inr hx)) (fun x hx => mem_addVs.2 (.inr hx)), ren_vs, List.map_map]
  constructor
  · rintro ⟨-, h⟩ a ha b hb hab
    have h1 := List.map_inj_left.1 h
    have h2 := h1 a ((hm a).1 ha)
    have h3 := h1 b ((hm b).1 hb)
    simp only [Function.comp] at h2 h3
    rw [hab, ← h3] at h2
    exact placeI_inj ha h2
  · intro hq
    refine ⟨ren_sk f t, List.map_inj_left.2 fun a ha => ?_⟩
    have e : (renT f t).vars = t.vars.map (plI f) := by
      unfold Tm.vars
      rw [ren_vs]
      exact addVs_map (plI f) t.vars hq t.vs [] (by simp) fun x hx => (hm x).2 hx
    simp only [Function.comp]
    rw [e]
    exact (placeI_map _ _ _ fun x hx h => hq x hx a ((hm a).2 ha) h).symm
theorem addV_nodup {o : List Int} (h : o.Nodup) (x : Int) : (addV o x).Nodup := by
  unfold addV
  by_cases hx : x ∈ o
  · rwa [if_pos hx]
  · rw [if_neg hx, List.nodup_append]
    exact ⟨h, by simp, fun a ha b hb => by simp at hb; subst hb; exact fun e => hx (e ▸ ha)⟩
theorem addVs_nodup (l : List Int) : ∀ o : List Int, o.Nodup → (addVs o l).Nodup := by
  induction l with
  | nil => intro o h; exact h
  | cons x l ih => intro o h; exact ih _ (addV_nodup h x)
theorem inj_nodup (q : Int → Int) (l : List Int) (hl : l.Nodup) : (l.map q).Nodup ↔ InjOn q l := by
  induction l with
  | nil => simp [InjOn]
  | cons x l ih =>
    obtain ⟨hx, hl⟩ := List.nodup_cons.1 hl
    rw [List.map_cons, List.nodup_cons, ih hl]
    constructor
    · rintro ⟨h1, h2⟩ a ha b hb hab
      rcases List.mem_cons.1 ha with e1 | h3 <;> rcases List.mem_cons.1 hb with e2 | h4
      · rw [e1, e2]
      · exact absurd (List.mem_map.2 ⟨b, h4, by rw [← hab, e1]⟩) h1
      · exact absurd (List.mem_map.2 ⟨a, h3, by rw [hab, e2]⟩) h1
      · exact h2 a h3 b h4 hab
    · intro h
      refine ⟨fun hm => ?_, fun a ha b hb => h a (by simp [ha]) b (by simp [hb])⟩
      obtain ⟨y, hy, hyx⟩ := List.mem_map.1 hm
      exact hx (h y (by simp [hy]) x (by simp) hyx ▸ hy)
/-- what the law's two loops make of it -/
def singleB (q : Int → Int) (l : List Int) : Bool := decide ((l.map q).Nodup)
theorem single_eq (f : Nat → Nat) (t : Tm) : variantB t (renT f t) = singleB (plI f) t.vars := by
  unfold singleB
  rw [Bool.eq_iff_iff, ren_variant, decide_eq_true_eq]
  exact (inj_nodup _ _ (addVs_nodup t.vs [] List.nodup_nil)).symm
/-- the places so far, and those of the round -/
def singleK (q : Int → Int) (l : List Int) (x : Int) (k : Nat) : Bool := singleB q l && decide (q x ∉ (l.take k).map q)
theorem singleK_zero (q : Int → Int) (l : List Int) (x : Int) : singleK q l x 0 = singleB q l := by simp [singleK]
theorem singleK_step (q : Int → Int) (l : List Int) (x : Int) (k : Nat) (hk : k < l.length) : singleK q l x (k + 1) = (singleK q l x k && decide (q x ≠ q l[k])) := by
  unfold singleK
  rw [List.take_succ_eq_append_getElem hk, List.map_append, Bool.and_assoc]
  congr 1
  simp only [List.map_cons, List.map_nil, List.mem_append, List.mem_singleton, not_or, Bool.decide_and]
theorem singleB_take (q : Int → Int) (l : List Int) (i : Nat) (hi : i < l.length) : singleB q (l.take (i + 1)) = singleK q (l.take i) l[i] i := by
  unfold singleB singleK singleB
  rw [List.take_succ_eq_append_getElem hi, List.map_append, List.take_take, Nat.min_self]
  rw [Bool.eq_iff_iff]
  simp only [decide_eq_true_eq, Bool.and_eq_true, List.map_cons, List.map_nil, List.nodup_append, List.mem_singleton]
  constructor
  · rintro ⟨h1, -, h3⟩; exact ⟨h1, fun h => h3 _ h _ rfl rfl⟩
  · rintro ⟨h1, h2⟩; exact ⟨h1, by simp, fun a ha b hb e => h2 (by rw [← hb, ← e]; exact ha)⟩
/-- the law's list of variables -/
def toF (T0 : List Nat) (n : Nat) : Nat := if h : n < T0.length then T0[n] else n
theorem sig_var (T0 : List Nat) (t : Tm) : mapT (sigL (T0.map Tm.var)) t = renT (toF T0) t := by
  have e : sigL (T0.map Tm.var) = fun n => .var (toF T0 n) := by
    funext n
    unfold sigL toF
    by_cases h : n < T0.length
    · rw [dif_pos (by simpa using h), dif_pos h]; simp [Tm.kind]
    · rw [dif_neg (by simpa using h), dif_neg h]
  rw [e]; rfl
end Go.Proofs.Ytmffobadnmkpbaa
namespace Go.Proofs.Ytmffobadnmkpbaa
open Go.RowKit

/-- a list of uint8 -/
def U8At (w : World) (v : Value) (T0 : List Nat) : Prop := SlAt w 1 v T0.length (T0.map fun (n : Nat) => Value.int .u8 (n : Int)) ∧ ∀ n ∈ T0, n ≤ 255
theorem U8At.below {w w' : World} {v : Value} {T0 : List Nat} (h : U8At w v T0) (hb : Below w.heap.size w w') : U8At w' v T0 := ⟨h.1.below hb, h.2⟩
theorem U8At.shape {w : World} {v : Value} {T0 : List Nat} (h : U8At w v T0) : ∃ ao cap, v = .slice ao T0.length cap ∧ T0.length ≤ cap ∧ cap ≤ maxLen := h.1.shape
theorem U8At.get {w : World} {ao : Option Addr} {n cap : Nat} {T0 : List Nat} (h : U8At w (.slice ao n cap) T0) (k : Nat) (hk : k < T0.length) :
    ∃ b off, ao = some ⟨b, off, none⟩ ∧ b < w.heap.size ∧ w.cell? ⟨b, off + k, none⟩ = some (.int .u8 (T0[k] : Int)) ∧ T0[k] ≤ 255 := by
  obtain ⟨b, off, c', he, hc, hm, hb, hx⟩ := h.1.pos (by omega)
  simp only [Value.slice.injEq] at he
  obtain ⟨rfl, -, rfl⟩ := he
  refine ⟨b, off, rfl, hb, ?_, h.2 _ (List.getElem_mem hk)⟩
  rw [hx k (by omega)]
  simp [hk]
theorem U8At.of_ints {w : World} {v : Value} {zs : List Int} (h : SlAt w 1 v zs.length (zs.map (Value.int .u8))) (hz : ∀ z ∈ zs, 0 ≤ z ∧ z ≤ 255) : U8At w v (zs.map Int.toNat) := by
  refine ⟨?_, fun n hn => ?_⟩
  · have e : (zs.map Int.toNat).map (fun (n : Nat) => Value.int .u8 (n : Int)) = zs.map (Value.int .u8) := by
      rw [List.map_map]
      exact List.map_congr_left fun z hzz => by have := hz z hzz; simp only [Function.comp]; rw [Int.toNat_of_nonneg this.1]
    rw [e, List.length_map]; exact h
  · obtain ⟨z, hzz, rfl⟩ := List.mem_map.1 hn
    have := hz z hzz; omega
theorem toF_lt (T0 : List Nat) (hT : ∀ n ∈ T0, n ≤ 255) (n : Nat) (h : n < 5000) : toF T0 n < 5000 := by
  unfold toF
  split
  · have := hT _ (List.getElem_mem (by assumption)); omega
  · exact h
set_option maxRecDepth 100000 in
theorem place07_c (T0 : List Nat) (v : Value) (n : Nat) (w : World) (ha : U8At w v T0) : Calls Try.prog 28 #[.int .i64 n, v] w fun e w' => e = .returned (.int .i64 (toF T0 n : Nat)) ∧ Below w.heap.size w w' := by
  obtain ⟨ao, cap, rfl, _⟩ := ha.shape
  by_cases hlt : n < T0.length
  · obtain ⟨b, off, rfl, hb, hc, h255⟩ := ha.get n hlt
    have e : toF T0 n = T0[n] := by unfold toF; rw [dif_pos hlt]
    rw [e]
    have hki : (n : Int) < T0.length := by omega
    generalize T0[n] = y at *
    clear ha e
    go_enter Try.func28, Try.ntmps28
    go_wp2
    go_ret
    exact ⟨rfl, Below.refl _ _⟩
  · have e : toF T0 n = n := by unfold toF; rw [dif_neg hlt]
    rw [e]
    have hki : ¬ (n : Int) < T0.length := by omega
    clear ha e hlt
    go_enter Try.func28, Try.ntmps28
    go_wp2
    go_ret
    exact ⟨rfl, Below.refl _ _⟩
end Go.Proofs.Ytmffobadnmkpbaa
