/-
  coneyref07.Sort, walked: each term put where it belongs.
  coneylaw07.same and sames: they say yes to equal terms. Walked.
  The law TermSorts, walked.
-/
import Derived.Test.YtmffobadnmkpbaaKtmr5
import Derived.Test.YtmffobadnmkpbaaKtmr2
import Derived.BigRegion
import Derived.RegionTactic
import Derived.Test.YtmffobadnmkpbaaKtmr1
import Derived.Deep.RegionHeld3
import Derived.Deep.Cut
import Derived.Handy
import Derived.Test.YtmffobadnmkpbaaKtmr6
namespace Go.Proofs.Ytmffobadnmkpbaa
open Go.RowKit

theorem ownTs_somewhere {p : Nat → Prop} {base : Nat} {w : World} {v : Value} {L : List (Tm × Value)} (h : OwnTs p base w v L) (h0 : 0 < L.length) : ∃ g cap, v = .slice (some ⟨g, 0, none⟩) L.length cap ∧ base ≤ g ∧ L.length ≤ cap ∧ cap ≤ 9223372036854775807 := by
  rcases h.own.2 with ⟨_, he⟩ | ⟨g, cap, cur, he, hg, _, h1, h2, _⟩
  · omega
  · exact ⟨g, cap, he, hg, h1, by unfold maxLen at h2; omega⟩
theorem ownTs_pushN {p : Nat → Prop} {base n : Nat} {w w' : World} {v : Value} {L : List (Tm × Value)} {t : Tm} {a : Value} {g cap : Nat} (h : OwnTs p base w v L) (hn : L.length = n) (ht : TmAt (fun b => v.ownBlock ≠ some b ∧ p b) w t a)
    (ho : w'.ownsRow base 24 4 (.slice (some ⟨g, 0, none⟩) (n + 1) cap) (n + 1) (tmCs L ++ (#[.int .i64 t.kind, .int .i64 t.num, .string t.name, a] : Array Value).toList)) (hk : KeepsBut w w' v) (hp : v.ownBlock = some g ∨ w.heap.size ≤ g) : OwnTs p base w' (.slice (some ⟨g, 0, none⟩) (n + 1) cap) (L ++ [(t, a)]) := by
  subst hn; exact h.push ht ho hk hp
/-- a part of an own list, seen where another row grows -/
structure Part (p : Nat → Prop) (v : Value) (w : World) (x : Value) (X : List (Tm × Value)) : Prop where
  sl : SlAt w 4 x X.length (tmCs X)
  one : ∀ u ∈ tmCs X, u.oneCell' = true
  tms : ∀ y ∈ X, TmAt (fun b => v.ownBlock ≠ some b ∧ p b) w y.1 y.2
theorem part_take {p : Nat → Prop} {H g m oc i base : Nat} {w : World} {v : Value} {Q : List (Tm × Value)} (h : OwnTs p base w (.slice (some ⟨g, 0, none⟩) m oc) Q) (hQ : Q.length = m) (hp : ∀ b, p b → b < H) (hv : ∀ b, v.ownBlock = some b → H ≤ b) (hi : i ≤ m) (hm : m ≤ oc) : Part p v w (.slice (some ⟨g, 0, none⟩) i oc) (Q.take i) := by
  have hs := SlAt.of_own h.own
  rw [hQ] at hs
  have h1 := hs.take i oc hi (by omega) (Nat.le_refl _)
  have e : (tmCs Q).take (i * 4) = tmCs (Q.take i) := by
    conv => lhs; rw [← List.take_append_drop i Q, tmCs_append]
    rw [List.take_append_of_le_length (by rw [tmCs_len, List.length_take]; omega), List.take_of_length_le (by rw [tmCs_len, List.length_take]; omega)]
  rw [e] at h1
  refine ⟨by rw [List.length_take, hQ, Nat.min_eq_left hi]; exact h1, tmCs_one (fun y hy => h.tms y (List.mem_of_mem_take hy)), fun y hy => (h.tms y (List.mem_of_mem_take hy)).mono fun b _ hb => ⟨⟨fun e => ?_, hb.2⟩, rfl⟩⟩
  have := hv b e
  have := hp b hb.2
  omega
theorem part_drop {p : Nat → Prop} {H g m oc i base : Nat} {w : World} {v : Value} {Q : List (Tm × Value)} (h : OwnTs p base w (.slice (some ⟨g, 0, none⟩) m oc) Q) (hQ : Q.length = m) (hp : ∀ b, p b → b < H) (hv : ∀ b, v.ownBlock = some b → H ≤ b) (hi : i ≤ m) {ao : Option Addr} (hao : i < oc → ao = some ⟨g, i * 4, none⟩) (hao' : ao = none → oc - i = 0) : Part p v w (.slice ao (m - i) (oc - i)) (Q.drop i) := by
  have hs := SlAt.of_own h.own
  rw [hQ] at hs
  have h1 := hs.drop (by decide) i hi rfl rfl (ao' := ao) (fun hc b off he => by
    simp only [Option.some.injEq, Addr.mk.injEq, and_true] at he
    obtain ⟨rfl, rfl⟩ := he
    rw [Nat.zero_add]; exact hao hc) (fun _ he => hao' he)
  have e : (tmCs Q).drop (i * 4) = tmCs (Q.drop i) := by
    conv => lhs; rw [← List.take_append_drop i Q, tmCs_append]
    rw [List.drop_append_of_le_length (by rw [tmCs_len, List.length_take]; omega), List.drop_of_length_le (by rw [tmCs_len, List.length_take]; omega), List.nil_append]
  rw [e] at h1
  refine ⟨by rw [List.length_drop, hQ]; exact h1, tmCs_one (fun y hy => h.tms y (List.mem_of_mem_drop hy)), fun y hy => (h.tms y (List.mem_of_mem_drop hy)).mono fun b _ hb => ⟨⟨fun e => ?_, hb.2⟩, rfl⟩⟩
  have := hv b e
  have := hp b hb.2
  omega
/-- what is known of the list out in a later world -/
structure RsW (w : World) (g m oc : Nat) (Q : List (Tm × Value)) (wr : World) : Prop where
  own : OwnTs (fun b => b < w.heap.size) w.heap.size wr (.slice (some ⟨g, 0, none⟩) m oc) Q
  bel : Below w.heap.size w wr
theorem RsW.below {w : World} {g m oc : Nat} {Q : List (Tm × Value)} {wr W : World} (h : RsW w g m oc Q wr) (hb : Below wr.heap.size wr W) : RsW w g m oc Q W := ⟨h.own.below hb, h.bel.trans (hb.mono h.bel.size)⟩

set_option maxRecDepth 100000 in
set_option maxHeartbeats 6400000 in
theorem refSort_c (va : Value) (l : List Tm) (w : World) (hl : TsAt (fun _ => True) w va l) (hn : l.length ≤ 4096) :
    Calls Try.prog 32 #[va] w (RetSrt l w) := by
  obtain ⟨ao, cc, rfl, _, _⟩ := hl.shape
  obtain ⟨i0, hi, hz0, hz1, hz2⟩ := info_parts Try.infoTerm
  have HT := Lib.hid hl
  have N0 : Hid (RsW w w.heap.size 0 0 [] (w.alloc (.cells #[] 24))) := ⟨OwnTs.made _ w, (Below.refl _ _).alloc (Nat.le_refl _) _⟩
  clear hl
  go_enter Try.func32, Try.ntmps32
  go_wp2
  go_loopg [3, 4] l.length (fun f o s wr => ∃ (k g m oc : Nat) (Q : List (Tm × Value)), k ≤ l.length ∧ s = .int .i64 k ∧ o = .slice (some ⟨g, 0, none⟩) m oc ∧ m ≤ k ∧ m ≤ oc ∧ oc ≤ 9223372036854775807 ∧ Hid (f = l.length - k) ∧ Hid (Q.length = m) ∧ Hid (RsW w g m oc Q wr) ∧ Hid (Dd l k (Q.map Prod.fst)))
  case atStart => exact ⟨0, _, 0, 0, [], by omega, rfl, rfl, by omega, by omega, by omega, rfl, rfl, N0, Dd.zero l⟩
  case round =>
    obtain ⟨k, g, m, oc, Q, hk, rfl, rfl, hmk, hmo, hoc, HN, HQ, HW, HD⟩ := hrel
    obtain ⟨W1, hW1⟩ : ∃ W1, W1 = wr := ⟨_, rfl⟩
    subst hW1
    have hwz := HW.out.bel.size
    by_cases hlt : k < l.length
    · obtain ⟨b, off, a1, rfl, -, hcc, hta⟩ := HT.out.get k hlt
      obtain ⟨p1, q1, rfl, _⟩ := hta.shape
      have hbl := hcc.lt
      have HI : Hid (∀ i, i ≤ m → (∀ j (hj : j < Q.length), j < i → cmpT Q[j].1 l[k] < 0) → (∀ (hj : i < Q.length), ¬ cmpT Q[i].1 l[k] < 0) → (∀ (hj : i < Q.length), cmpT Q[i].1 l[k] ≠ 0) → Dd l (k + 1) ((Q.take i ++ [(l[k], Value.slice p1 l[k].args.length q1)] ++ Q.drop i).map Prod.fst)) := fun i hi h1 h2 h3 => by
        have h := HD.out.insert hlt (k := i) (by rw [List.length_map, HQ.out]; exact hi) (fun j hj => by rw [List.getElem_map]; exact h1 j _ hj) (fun hj => by rw [List.getElem_map]; exact h2 _) (fun hj => by rw [List.getElem_map]; exact h3 _)
        simpa [List.map_take, List.map_drop] using h
      have HF : Hid (∀ i (hj : i < Q.length), cmpT Q[i].1 l[k] = 0 → Dd l (k + 1) (Q.map Prod.fst)) := fun i hj he => HD.out.found hlt (k := i) (by rw [List.length_map]; exact hj) (by rw [List.getElem_map]; exact he)
      have HX : Hid (∀ W, Below w.heap.size w W → CellsT W b (off + k * 4) l[k] (.slice p1 l[k].args.length q1) ∧ TmAt (fun _ => True) W l[k] (.slice p1 l[k].args.length q1)) := fun W h => ⟨hcc.block (h.block _ hbl), hta.later h⟩
      have HXP : Hid (TmAt (fun b => b < w.heap.size) w l[k] (.slice p1 l[k].args.length q1)) := hta.mono fun b hb _ => ⟨hb, rfl⟩
      clear hta hcc
      generalize l[k] = x at *
      go_wp2
      go_loopg [5] m (fun f s wr => ∃ i : Nat, i ≤ m ∧ s = .int .i64 i ∧ Hid (f = m - i) ∧ Hid (RsW w g m oc Q wr) ∧ Hid (∀ j (hj : j < Q.length), j < i → cmpT Q[j].1 x < 0))
      case atStart => exact ⟨0, by omega, rfl, rfl, HW, fun j _ h => by omega⟩
      case round =>
        obtain ⟨i, him, rfl, HN2, HW2, HJ⟩ := hrel
        have hwz2 := HW2.out.bel.size
        by_cases hi2 : i < m
        · have hiQ : i < Q.length := by rw [HQ.out]; exact hi2
          have c1 := ownTs_cells HW2.out.own i hiQ
          have t1 := HW2.out.own.tms Q[i] (List.getElem_mem hiQ)
          obtain ⟨p2, q2, e2, _⟩ := t1.shape
          rw [e2] at c1 t1
          have HF2 : Hid (cmpT Q[i].1 x = 0 → Dd l (k + 1) (Q.map Prod.fst)) := HF.out i hiQ
          have HJ2 : Hid (cmpT Q[i].1 x < 0 → ∀ j (hj : j < Q.length), j < i + 1 → cmpT Q[j].1 x < 0) := fun h j hj hji => by
            by_cases e : j = i
            · subst e; exact h
            · exact HJ.out j hj (by omega)
          have HI2 : Hid (¬ cmpT Q[i].1 x < 0 → cmpT Q[i].1 x ≠ 0 → Dd l (k + 1) ((Q.take i ++ [(x, Value.slice p1 x.args.length q1)] ++ Q.drop i).map Prod.fst)) := fun h1 h2 => HI.out i him HJ.out (fun _ => by first | exact h1 | exact Int.not_lt.1 h1) (fun _ => h2)
          clear e2
          generalize Q[i].1 = y at *
          clear hiQ
          obtain ⟨c2, t2⟩ := HX.out wr HW2.out.bel
          have CX : Hid (∀ W, Below wr.heap.size wr W → Calls Try.prog 24 #[.agg #[.int .i64 y.kind, .int .i64 y.num, .string y.name, .slice p2 y.args.length q2], .agg #[.int .i64 x.kind, .int .i64 x.num, .string x.name, .slice p1 x.args.length q1]] W fun e w' => e = .returned (.int .i64 (cmpT y x)) ∧ Below W.heap.size W w') := fun W h =>
            refCompareT_c y x _ _ W (t1.any.later h) (t2.later h)
          have KK : Hid (∀ W, Below wr.heap.size wr W → CellsT W g (i * 4) y (.slice p2 y.args.length q2) ∧ CellsT W b (off + k * 4) x (.slice p1 x.args.length q1)) := fun W h => ⟨c1.block (h.block _ c1.lt), c2.block (h.block _ c2.lt)⟩
          have hgr := c1.lt
          have hbr := c2.lt
          obtain ⟨x0, x1, x2, x3⟩ := c1
          obtain ⟨y0, y1, y2, y3⟩ := c2
          generalize cmpT y x = z at *
          clear t1 t2
          go_upto_region 6 with (fail)
          go_region_held3 (fun W => W.cell? ⟨g, i * 4, none⟩ = some (.int .i64 y.kind) ∧ W.cell? ⟨g, i * 4 + 1, none⟩ = some (.int .i64 y.num) ∧ W.cell? ⟨g, i * 4 + 2, none⟩ = some (.string y.name) ∧ W.cell? ⟨g, i * 4 + 3, none⟩ = some (.slice p2 y.args.length q2) ∧ W.cell? ⟨b, off + k * 4, none⟩ = some (.int .i64 x.kind) ∧ W.cell? ⟨b, off + k * 4 + 1, none⟩ = some (.int .i64 x.num) ∧ W.cell? ⟨b, off + k * 4 + 2, none⟩ = some (.string x.name) ∧ W.cell? ⟨b, off + k * 4 + 3, none⟩ = some (.slice p1 x.args.length q1))
            ((first | exact cells_two (KK.out _ P2.out) | (refine cells_two (KK.out _ ?_); go_grown)))
            (first | (go_at_call 24; refine (CX.out _ ?_).mono ?_; (· go_grown); rintro e W2 ⟨rfl, bb⟩; have P2 : Hid (Below wr.heap.size wr W2) := Below.trans (B := wr.heap.size) (by go_grown) (bb.mono (by go_size))))
          clear x0 x1 x2 x3 y0 y1 y2 y3
          have hs2 := P2.out.size
          by_cases hz : z < 0
          · have J3 := Lib.hid (HJ2.out hz)
            clear HJ2 HI2 HF2
            go_wp2
            go_roundg (m - (i + 1))
            case measure => have := HN2.out; omega
            case rel => exact ⟨i + 1, by omega, by go_num, rfl, HW2.out.below P2.out, J3.out⟩
          · obtain ⟨c1, c2⟩ := KK.out _ P2.out
            have KK2 : Hid (∀ W, Below W2.heap.size W2 W → CellsT W g (i * 4) y (.slice p2 y.args.length q2) ∧ CellsT W b (off + k * 4) x (.slice p1 x.args.length q1)) := fun W h => KK.out W (P2.out.trans (h.mono hs2))
            have CX2 : Hid (∀ W, Below W2.heap.size W2 W → Calls Try.prog 24 #[.agg #[.int .i64 y.kind, .int .i64 y.num, .string y.name, .slice p2 y.args.length q2], .agg #[.int .i64 x.kind, .int .i64 x.num, .string x.name, .slice p1 x.args.length q1]] W fun e w' => e = .returned (.int .i64 z) ∧ Below W.heap.size W w') := fun W h => CX.out W (P2.out.trans (h.mono hs2))
            obtain ⟨x0, x1, x2, x3⟩ := c1
            obtain ⟨y0, y1, y2, y3⟩ := c2
            have HWB := Lib.hid (HW2.out.below P2.out)
            have hg2 : g < W2.heap.size := by omega
            have hb2 : b < W2.heap.size := by omega
            clear CX KK HJ2
            go_upto_region 8 with (fail)
            go_region_held3 (fun W => W.cell? ⟨g, i * 4, none⟩ = some (.int .i64 y.kind) ∧ W.cell? ⟨g, i * 4 + 1, none⟩ = some (.int .i64 y.num) ∧ W.cell? ⟨g, i * 4 + 2, none⟩ = some (.string y.name) ∧ W.cell? ⟨g, i * 4 + 3, none⟩ = some (.slice p2 y.args.length q2) ∧ W.cell? ⟨b, off + k * 4, none⟩ = some (.int .i64 x.kind) ∧ W.cell? ⟨b, off + k * 4 + 1, none⟩ = some (.int .i64 x.num) ∧ W.cell? ⟨b, off + k * 4 + 2, none⟩ = some (.string x.name) ∧ W.cell? ⟨b, off + k * 4 + 3, none⟩ = some (.slice p1 x.args.length q1))
              ((first | exact cells_two (KK2.out _ P3.out) | (refine cells_two (KK2.out _ ?_); go_grown)))
              (first | (go_at_call 24; refine (CX2.out _ ?_).mono ?_; (· go_grown); rintro e W3 ⟨rfl, bb⟩; have P3 : Hid (Below W2.heap.size W2 W3) := Below.trans (B := W2.heap.size) (by go_grown) (bb.mono (by go_size))))
            clear x0 x1 x2 x3 y0 y1 y2 y3 KK2 CX2
            have HWA := Lib.hid (HWB.out.below P3.out)
            by_cases hz0' : z = 0
            · subst hz0'
              have D5 := Lib.hid (HF2.out rfl)
              go_wp2
              go_roundg (l.length - (k + 1))
              case measure => have := HN.out; omega
              case rel => exact ⟨k + 1, g, m, oc, Q, by omega, by go_num, rfl, by omega, hmo, hoc, rfl, HQ, HWA, D5⟩
            · have HDI := Lib.hid (HI2.out hz hz0')
              have hzb : (z == 0) = false := by simpa using hz0'
              clear HF2 HI2 hz0' HWB HW2 P2 P3 hs2 hg2 hb2 hgr hbr hwz2
              generalize W3 = WA at *
              have hA := HWA.out.bel.size
              have BA : Hid (Below WA.heap.size WA (WA.alloc (.cells #[] 24))) := (Below.refl _ _).alloc (Nat.le_refl _) _
              have T0 : Hid (OwnTs (fun b => b < w.heap.size) WA.heap.size (WA.alloc (.cells #[] 24)) (.slice (some ⟨WA.heap.size, 0, none⟩) 0 0) []) := OwnTs.made _ WA
              have S1 : Hid (Part (fun b => b < w.heap.size) (.slice (some ⟨WA.heap.size, 0, none⟩) 0 0) (WA.alloc (.cells #[] 24)) (.slice (some ⟨g, 0, none⟩) i oc) (Q.take i)) := part_take (HWA.out.own.below BA.out) HQ.out (fun _ h => h) (fun b hb => by simp only [Value.ownBlock, Option.some.injEq] at hb; omega) him hmo
              have HLi : Hid ((Q.take i).length = i) := by show _ = _; rw [List.length_take, HQ.out]; omega
              have SA : Hid (SlAt (WA.alloc (.cells #[] 24)) 4 (.slice (some ⟨g, 0, none⟩) i oc) i (tmCs (Q.take i))) := by have h := S1.out.sl; rw [HLi.out] at h; exact h
              have hB0 : WA.heap.size ≤ (WA.alloc (.cells #[] 24)).heap.size := by simp
              go_upto_region 11 with (first
                | (at_builtin; refine wpList_append_slX rfl (.tmp 49) (.tmp 52) 22 rfl WA.heap.size 24 i0 (.agg #[.int .i64 0, .int .i64 0, .string ByteArray.empty, .slice none 0 0]) 4 56 Try.underlying22 hi hz0 hz1 hz2 rfl (by decide) _ 0 [] rfl T0.out.own _ i (tmCs (Q.take i)) rfl SA.out S1.out.one ⟨by omega, by omega⟩ hB0 ?_; intro v3 W5 ho3 hb3 hk3 hl3; have O3 := Lib.hid ho3; have B3 := Lib.hid hb3; have K3 := Lib.hid hk3; have L3 := Lib.hid hl3; clear ho3 hb3 hk3 hl3))
              have T3 : Hid (OwnTs (fun b => b < w.heap.size) WA.heap.size W5 v3 (Q.take i)) := by
                have h := T0.out.grow (X := Q.take i) S1.out.tms (by rw [HLi.out]; exact O3.out) K3.out (lies_or L3.out)
                exact h
              have B5 : Hid (Below WA.heap.size WA W5) := BA.out.trans B3.out
              obtain ⟨a3, c3, rfl⟩ : ∃ a c, v3 = .slice a i c := by
                obtain ⟨a, c, h, _⟩ := T3.out.shape
                rw [HLi.out] at h; exact ⟨a, c, h⟩
              have O5 : Hid (W5.ownsRow WA.heap.size 24 4 (.slice a3 i c3) i (tmCs (Q.take i))) := by have h := T3.out.own; rw [HLi.out] at h; exact h
              have hs5 := B5.out.size
              have CW5 := HX.out W5 (HWA.out.bel.trans (B5.out.mono hA))
              obtain ⟨y0, y1, y2, y3⟩ := CW5.1
              have hb5 := CW5.1.lt
              have HTX : Hid (TmAt (fun b => (Value.slice a3 i c3).ownBlock ≠ some b ∧ b < w.heap.size) W5 x (.slice p1 x.args.length q1)) := HXP.out.mono fun b hb _ => ⟨⟨fun e => by have := T3.out.own.lt b e; omega, hb⟩, (HWA.out.bel.trans (B5.out.mono hA)).block b hb⟩
              clear CW5 SA S1 T0 O3 B3 K3 L3 hB0 BA
              go_upto_region 12 with (first
                | (at_builtin; refine wpList_appendX rfl (.tmp 54) (.tmp 59) 22 rfl WA.heap.size 24 i0 (.agg #[.int .i64 0, .int .i64 0, .string ByteArray.empty, .slice none 0 0]) 4 56 Try.underlying22 hi hz0 hz1 hz2 rfl (by decide) _ i (tmCs (Q.take i)) rfl O5.out _ _ rfl rfl rfl (one4r rfl rfl rfl rfl) ⟨by omega, by omega⟩ hs5 ?_; intro g6 c6 W6 ho6 hb6 hk6 hl6; have T6 := Lib.hid (ownTs_pushN T3.out HLi.out HTX.out ho6 hk6 hl6); have B6 := Lib.hid (B5.out.trans hb6); have G6 := Lib.hid ho6; clear ho6 hb6 hk6 hl6))
              clear y0 y1 y2 y3 O5 HTX T3 B5 hb5
              have hs6 := B6.out.size
              have HLj : Hid ((Q.take i ++ [(x, Value.slice p1 x.args.length q1)]).length = i + 1) := by show _ = _; rw [List.length_append, HLi.out]; rfl
              have HG6 : Hid (WA.heap.size ≤ g6) := (ownBlock_ge T6.out.own g6 rfl)
              have O6 : Hid (W6.ownsRow WA.heap.size 24 4 (.slice (some ⟨g6, 0, none⟩) (i + 1) c6) (i + 1) (tmCs (Q.take i ++ [(x, Value.slice p1 x.args.length q1)]))) := by have h := T6.out.own; rw [HLj.out] at h; exact h
              have SD : Hid (∀ ao, (i < oc → ao = some ⟨g, i * 4, none⟩) → (ao = none → oc - i = 0) → Part (fun b => b < w.heap.size) (.slice (some ⟨g6, 0, none⟩) (i + 1) c6) W6 (.slice ao (m - i) (oc - i)) (Q.drop i)) := fun ao h1 h2 => part_drop (HWA.out.own.below B6.out) HQ.out (fun _ h => h) (fun b hb => by have := HG6.out; simp only [Value.ownBlock, Option.some.injEq] at hb; omega) him h1 h2
              have HLd : Hid ((Q.drop i).length = m - i) := by show _ = _; rw [List.length_drop, HQ.out]
              obtain ⟨SP, hSP⟩ : ∃ SP, SP = Part (fun b => b < w.heap.size) (.slice (some ⟨g6, 0, none⟩) (i + 1) c6) W6 := ⟨_, rfl⟩
              have SD1 := Lib.hid (SD.out (some ⟨g, i * 4, none⟩) (fun _ => rfl) (fun h => by cases h))
              have SD2 : Hid (SlAt W6 4 (.slice (some ⟨g, i * 4, none⟩) (m - i) (oc - i)) (m - i) (tmCs (Q.drop i))) := by have h := SD1.out.sl; rw [HLd.out] at h; exact h
              clear hSP SP
              go_wp2_with (first
                | (at_builtin; refine wpList_append_slX rfl (.tmp 61) (.tmp 64) 22 rfl WA.heap.size 24 i0 (.agg #[.int .i64 0, .int .i64 0, .string ByteArray.empty, .slice none 0 0]) 4 56 Try.underlying22 hi hz0 hz1 hz2 rfl (by decide) _ (i + 1) (tmCs (Q.take i ++ [(x, Value.slice p1 x.args.length q1)])) rfl O6.out _ (m - i) (tmCs (Q.drop i)) rfl SD2.out SD1.out.one ⟨by omega, by omega⟩ hs6 ?_; intro v7 W7 ho7 hb7 hk7 hl7; have O7 := Lib.hid ho7; have B7 := Lib.hid (B6.out.trans hb7); have K7 := Lib.hid hk7; have L7 := Lib.hid hl7; clear ho7 hb7 hk7 hl7))
              have T7 : Hid (OwnTs (fun b => b < w.heap.size) WA.heap.size W7 v7 (Q.take i ++ [(x, Value.slice p1 x.args.length q1)] ++ Q.drop i)) := T6.out.grow (X := Q.drop i) SD1.out.tms (by rw [HLj.out, HLd.out]; exact O7.out) K7.out (lies_or L7.out)
              have HL7 : Hid ((Q.take i ++ [(x, Value.slice p1 x.args.length q1)] ++ Q.drop i).length = m + 1) := by show _ = _; rw [List.length_append, HLj.out, HLd.out]; omega
              obtain ⟨g7, c7, rfl, _, hc7, hm7⟩ : ∃ g c, v7 = .slice (some ⟨g, 0, none⟩) (m + 1) c ∧ WA.heap.size ≤ g ∧ m + 1 ≤ c ∧ c ≤ 9223372036854775807 := by
                obtain ⟨g, c, h1, h2, h3, h4⟩ := ownTs_somewhere T7.out (by rw [HL7.out]; omega)
                rw [HL7.out] at h1 h3; exact ⟨g, c, h1, h2, h3, h4⟩
              go_roundg (l.length - (k + 1))
              case measure => have := HN.out; omega
              case rel => exact ⟨k + 1, g7, m + 1, c7, _, by omega, by go_num, rfl, by omega, hc7, hm7, rfl, HL7, ⟨T7.out.weaken hA (fun _ h => h), HWA.out.bel.trans (B7.out.mono hA)⟩, HDI⟩
        · obtain rfl : i = m := by omega
          have HDI : Hid (Dd l (k + 1) ((Q.take i ++ [(x, Value.slice p1 x.args.length q1)] ++ Q.drop i).map Prod.fst)) := HI.out i (Nat.le_refl _) HJ.out (fun h => absurd h (by rw [HQ.out]; omega)) (fun h => absurd h (by rw [HQ.out]; omega))
          go_upto_region 6 with (fail)
          go_region
          go_upto_region 8 with (fail)
          go_region
          have HWA : Hid (RsW w g i oc Q wr.drew.drew) := HW2.out.below (Below.refl _ _).drew.drew
          generalize wr.drew.drew = WA at *
          clear HW2 hwz2
          have hA := HWA.out.bel.size
          have BA : Hid (Below WA.heap.size WA (WA.alloc (.cells #[] 24))) := (Below.refl _ _).alloc (Nat.le_refl _) _
          have T0 : Hid (OwnTs (fun b => b < w.heap.size) WA.heap.size (WA.alloc (.cells #[] 24)) (.slice (some ⟨WA.heap.size, 0, none⟩) 0 0) []) := OwnTs.made _ WA
          have S1 : Hid (Part (fun b => b < w.heap.size) (.slice (some ⟨WA.heap.size, 0, none⟩) 0 0) (WA.alloc (.cells #[] 24)) (.slice (some ⟨g, 0, none⟩) i oc) (Q.take i)) := part_take (HWA.out.own.below BA.out) HQ.out (fun _ h => h) (fun b hb => by simp only [Value.ownBlock, Option.some.injEq] at hb; omega) him hmo
          have HLi : Hid ((Q.take i).length = i) := by show _ = _; rw [List.length_take, HQ.out]; omega
          have SA : Hid (SlAt (WA.alloc (.cells #[] 24)) 4 (.slice (some ⟨g, 0, none⟩) i oc) i (tmCs (Q.take i))) := by have h := S1.out.sl; rw [HLi.out] at h; exact h
          have hB0 : WA.heap.size ≤ (WA.alloc (.cells #[] 24)).heap.size := by simp
          go_upto_region 11 with (first
            | (at_builtin; refine wpList_append_slX rfl (.tmp 49) (.tmp 52) 22 rfl WA.heap.size 24 i0 (.agg #[.int .i64 0, .int .i64 0, .string ByteArray.empty, .slice none 0 0]) 4 56 Try.underlying22 hi hz0 hz1 hz2 rfl (by decide) _ 0 [] rfl T0.out.own _ i (tmCs (Q.take i)) rfl SA.out S1.out.one ⟨by omega, by omega⟩ hB0 ?_; intro v3 W5 ho3 hb3 hk3 hl3; have O3 := Lib.hid ho3; have B3 := Lib.hid hb3; have K3 := Lib.hid hk3; have L3 := Lib.hid hl3; clear ho3 hb3 hk3 hl3))
          have T3 : Hid (OwnTs (fun b => b < w.heap.size) WA.heap.size W5 v3 (Q.take i)) := by
            have h := T0.out.grow (X := Q.take i) S1.out.tms (by rw [HLi.out]; exact O3.out) K3.out (lies_or L3.out)
            exact h
          have B5 : Hid (Below WA.heap.size WA W5) := BA.out.trans B3.out
          obtain ⟨a3, c3, rfl⟩ : ∃ a c, v3 = .slice a i c := by
            obtain ⟨a, c, h, _⟩ := T3.out.shape
            rw [HLi.out] at h; exact ⟨a, c, h⟩
          have O5 : Hid (W5.ownsRow WA.heap.size 24 4 (.slice a3 i c3) i (tmCs (Q.take i))) := by have h := T3.out.own; rw [HLi.out] at h; exact h
          have hs5 := B5.out.size
          have CW5 := HX.out W5 (HWA.out.bel.trans (B5.out.mono hA))
          obtain ⟨y0, y1, y2, y3⟩ := CW5.1
          have hb5 := CW5.1.lt
          have HTX : Hid (TmAt (fun b => (Value.slice a3 i c3).ownBlock ≠ some b ∧ b < w.heap.size) W5 x (.slice p1 x.args.length q1)) := HXP.out.mono fun b hb _ => ⟨⟨fun e => by have := T3.out.own.lt b e; omega, hb⟩, (HWA.out.bel.trans (B5.out.mono hA)).block b hb⟩
          clear CW5 SA S1 T0 O3 B3 K3 L3 hB0 BA
          go_upto_region 12 with (first
            | (at_builtin; refine wpList_appendX rfl (.tmp 54) (.tmp 59) 22 rfl WA.heap.size 24 i0 (.agg #[.int .i64 0, .int .i64 0, .string ByteArray.empty, .slice none 0 0]) 4 56 Try.underlying22 hi hz0 hz1 hz2 rfl (by decide) _ i (tmCs (Q.take i)) rfl O5.out _ _ rfl rfl rfl (one4r rfl rfl rfl rfl) ⟨by omega, by omega⟩ hs5 ?_; intro g6 c6 W6 ho6 hb6 hk6 hl6; have T6 := Lib.hid (ownTs_pushN T3.out HLi.out HTX.out ho6 hk6 hl6); have B6 := Lib.hid (B5.out.trans hb6); have G6 := Lib.hid ho6; clear ho6 hb6 hk6 hl6))
          clear y0 y1 y2 y3 O5 HTX T3 B5 hb5
          have hs6 := B6.out.size
          have HLj : Hid ((Q.take i ++ [(x, Value.slice p1 x.args.length q1)]).length = i + 1) := by show _ = _; rw [List.length_append, HLi.out]; rfl
          have HG6 : Hid (WA.heap.size ≤ g6) := (ownBlock_ge T6.out.own g6 rfl)
          have O6 : Hid (W6.ownsRow WA.heap.size 24 4 (.slice (some ⟨g6, 0, none⟩) (i + 1) c6) (i + 1) (tmCs (Q.take i ++ [(x, Value.slice p1 x.args.length q1)]))) := by have h := T6.out.own; rw [HLj.out] at h; exact h
          have SD : Hid (∀ ao, (i < oc → ao = some ⟨g, i * 4, none⟩) → (ao = none → oc - i = 0) → Part (fun b => b < w.heap.size) (.slice (some ⟨g6, 0, none⟩) (i + 1) c6) W6 (.slice ao (i - i) (oc - i)) (Q.drop i)) := fun ao h1 h2 => part_drop (HWA.out.own.below B6.out) HQ.out (fun _ h => h) (fun b hb => by have := HG6.out; simp only [Value.ownBlock, Option.some.injEq] at hb; omega) him h1 h2
          have HLd : Hid ((Q.drop i).length = i - i) := by show _ = _; rw [List.length_drop, HQ.out]
          have HE : Hid (Q.take i ++ [(x, Value.slice p1 x.args.length q1)] ++ Q.drop i = Q.take i ++ [(x, Value.slice p1 x.args.length q1)]) := by show _ = _; rw [List.drop_of_length_le (by rw [HQ.out]; omega), List.append_nil]
          have HDI2 : Hid (Dd l (k + 1) ((Q.take i ++ [(x, Value.slice p1 x.args.length q1)]).map Prod.fst)) := by have h := HDI.out; rw [HE.out] at h; exact h
          obtain ⟨hc6, hm6⟩ : i + 1 ≤ c6 ∧ c6 ≤ 9223372036854775807 := by
            obtain ⟨a', c', he, h1, h2⟩ := T6.out.shape
            simp only [Value.slice.injEq] at he
            obtain ⟨_, _, rfl⟩ := he
            rw [HLj.out] at h1; unfold maxLen at h2; exact ⟨h1, by omega⟩
          clear SD HLd HE
          go_wp2
          all_goals
            go_roundg (l.length - (k + 1))
            case measure => have := HN.out; omega
            case rel => exact ⟨k + 1, g6, i + 1, c6, _, by omega, by go_num, rfl, by omega, hc6, hm6, rfl, HLj, ⟨T6.out.weaken hA (fun _ h => h), HWA.out.bel.trans (B6.out.mono hA)⟩, HDI2⟩
    · obtain rfl : k = l.length := by omega
      have HR : Hid (TsAt (fun _ => True) W1 (.slice (some ⟨g, 0, none⟩) (Q.map Prod.fst).length oc) (Q.map Prod.fst)) := by
        have h := HW.out.own.at
        rw [← HQ.out] at h
        rwa [List.length_map]
      have HQm : Hid ((Q.map Prod.fst).length = m) := by show _ = _; rw [List.length_map]; exact HQ.out
      go_wp2
      go_ret
      exact ⟨_, oc, Q.map Prod.fst, congrArg (fun n => Ending.returned (.slice (some ⟨g, 0, none⟩) n oc)) HQm.out.symm, HR.out, HD.out, HW.out.bel⟩
end Go.Proofs.Ytmffobadnmkpbaa
namespace Go.Proofs.Ytmffobadnmkpbaa
open Go.RowKit

def SameC07 (t : Tm) : Prop := ∀ (va vb : Value) (w : World), TmAt (fun _ => True) w t va → TmAt (fun _ => True) w t vb →
  Calls Try.prog 26 #[tmV t va, tmV t vb] w fun e w' => e = .returned (.bool true) ∧ Below w.heap.size w w'
set_option maxRecDepth 100000 in
set_option maxHeartbeats 1600000 in
theorem sames07_c (va vb : Value) (l : List Tm) (w : World) (ha : TsAt (fun _ => True) w va l) (hb : TsAt (fun _ => True) w vb l) (hC : ∀ t ∈ l, SameC07 t) :
    Calls Try.prog 33 #[va, vb] w fun e w' => e = .returned (.bool true) ∧ Below w.heap.size w w' := by
  obtain ⟨ao, ca, rfl, hl1, hl2⟩ := ha.shape
  obtain ⟨bo, cb, rfl, _, _⟩ := hb.shape
  have hla : l.length ≤ 9223372036854775807 := by unfold maxLen at hl2; omega
  have HA := Lib.hid ha
  have HB := Lib.hid hb
  have HC := Lib.hid hC
  clear ha hb hC hl1 hl2
  go_enter Try.func33, Try.ntmps33
  go_wp2
  go_loopg [5] l.length (fun n i wr => ∃ k : Nat, k ≤ l.length ∧ i = .int .i64 k ∧ Hid (n = l.length - k) ∧ Hid (Below w.heap.size w wr))
  case atStart => exact ⟨0, by omega, rfl, rfl, Below.refl _ _⟩
  case round =>
    obtain ⟨k, hk, rfl, HN, HW⟩ := hrel
    by_cases hlt : k < l.length
    · have hki : (k : Int) < l.length := by omega
      obtain ⟨b1, o1, a1, rfl, -, hcc1, hta⟩ := (HA.out.later HW.out).get k hlt
      obtain ⟨b2, o2, a2, rfl, -, hcc2, htb⟩ := (HB.out.later HW.out).get k hlt
      obtain ⟨p1, q1, rfl, _⟩ := hta.shape
      obtain ⟨p2, q2, rfl, _⟩ := htb.shape
      have hb1 := hcc1.lt
      have hb2 := hcc2.lt
      have CX := Lib.hid (HC.out l[k] (List.getElem_mem hlt))
      generalize l[k] = t at *
      have CC : Hid (∀ W, Below wr.heap.size wr W → Calls Try.prog 26 #[.agg #[.int .i64 t.kind, .int .i64 t.num, .string t.name, .slice p1 t.args.length q1], .agg #[.int .i64 t.kind, .int .i64 t.num, .string t.name, .slice p2 t.args.length q2]] W fun e w' => e = .returned (.bool true) ∧ Below W.heap.size W w') := fun W h => CX.out _ _ W (hta.later h) (htb.later h)
      have KK : Hid (∀ W, Below wr.heap.size wr W → CellsT W b1 (o1 + k * 4) t (.slice p1 t.args.length q1) ∧ CellsT W b2 (o2 + k * 4) t (.slice p2 t.args.length q2)) := fun W h => ⟨hcc1.block (h.block _ hb1), hcc2.block (h.block _ hb2)⟩
      have KS : Hid (∀ W, Below wr.heap.size wr W → W.cell? ⟨b1, o1 + k * 4, none⟩ = some (.int .i64 t.kind) ∧ W.cell? ⟨b1, o1 + k * 4 + 1, none⟩ = some (.int .i64 t.num) ∧ W.cell? ⟨b1, o1 + k * 4 + 2, none⟩ = some (.string t.name) ∧ W.cell? ⟨b1, o1 + k * 4 + 3, none⟩ = some (.slice p1 t.args.length q1) ∧ W.cell? ⟨b2, o2 + k * 4, none⟩ = some (.int .i64 t.kind) ∧ W.cell? ⟨b2, o2 + k * 4 + 1, none⟩ = some (.int .i64 t.num) ∧ W.cell? ⟨b2, o2 + k * 4 + 2, none⟩ = some (.string t.name) ∧ W.cell? ⟨b2, o2 + k * 4 + 3, none⟩ = some (.slice p2 t.args.length q2)) := fun W h => by
        obtain ⟨h1, h2⟩ := KK.out W h
        exact ⟨h1.c0, h1.c1, h1.c2, h1.c3, h2.c0, h2.c1, h2.c2, h2.c3⟩
      have k0 := KS.out _ (Below.refl _ _)
      clear hta htb hcc1 hcc2 CX KK
      go_upto_region 6 with (fail)
      go_region_held3 (fun W => W.cell? ⟨b1, o1 + k * 4, none⟩ = some (.int .i64 t.kind) ∧ W.cell? ⟨b1, o1 + k * 4 + 1, none⟩ = some (.int .i64 t.num) ∧ W.cell? ⟨b1, o1 + k * 4 + 2, none⟩ = some (.string t.name) ∧ W.cell? ⟨b1, o1 + k * 4 + 3, none⟩ = some (.slice p1 t.args.length q1) ∧ W.cell? ⟨b2, o2 + k * 4, none⟩ = some (.int .i64 t.kind) ∧ W.cell? ⟨b2, o2 + k * 4 + 1, none⟩ = some (.int .i64 t.num) ∧ W.cell? ⟨b2, o2 + k * 4 + 2, none⟩ = some (.string t.name) ∧ W.cell? ⟨b2, o2 + k * 4 + 3, none⟩ = some (.slice p2 t.args.length q2))
        ((first | exact KS.out _ P2.out | (refine KS.out _ ?_; go_grown)))
        (first | (go_at_call 26; refine (CC.out _ ?_).mono ?_; (· go_grown); rintro e W2 ⟨rfl, bb⟩; have P2 : Hid (Below wr.heap.size wr W2) := Below.trans (B := wr.heap.size) (by go_grown) (bb.mono (by go_size)); clear bb))
      clear k0
      go_wp2
      go_roundg (l.length - (k + 1))
      case measure => have := HN.out; omega
      case rel => exact ⟨k + 1, by omega, by go_num, rfl, HW.out.trans (P2.out.mono HW.out.size)⟩
    · obtain rfl : k = l.length := by omega
      go_wp2
      go_ret
      exact ⟨rfl, HW.out⟩
set_option maxRecDepth 100000 in
set_option maxHeartbeats 1600000 in
theorem same07_step (t : Tm) (va vb : Value) (w : World) (ha : TmAt (fun _ => True) w t va) (hb : TmAt (fun _ => True) w t vb) (hC : ∀ u ∈ t.args, SameC07 u) :
    Calls Try.prog 26 #[tmV t va, tmV t vb] w fun e w' => e = .returned (.bool true) ∧ Below w.heap.size w w' := by
  obtain ⟨ao, ca, rfl, _, _⟩ := ha.shape
  obtain ⟨bo, cb, rfl, _, _⟩ := hb.shape
  have B2 := Lib.hid (below_two w (.cells #[.int .i64 t.kind, .int .i64 t.num, .string t.name, .slice ao t.args.length ca] 24) (.cells #[.int .i64 t.kind, .int .i64 t.num, .string t.name, .slice bo t.args.length cb] 24))
  have CC : Hid (Calls Try.prog 33 #[.slice ao t.args.length ca, .slice bo t.args.length cb] ((w.alloc (.cells #[.int .i64 t.kind, .int .i64 t.num, .string t.name, .slice ao t.args.length ca] 24)).alloc (.cells #[.int .i64 t.kind, .int .i64 t.num, .string t.name, .slice bo t.args.length cb] 24)) fun e w' => e = .returned (.bool true) ∧ Below w.heap.size w w') :=
    (sames07_c _ _ t.args _ (TsAt.of_tm (ha.later B2.out)) (TsAt.of_tm (hb.later B2.out)) hC).mono fun e w' ⟨h1, h2⟩ => ⟨h1, B2.out.trans (h2.mono B2.out.size)⟩
  unfold tmV
  clear ha hb hC
  have hs : (t.name.toList == t.name.toList) = true := by simp
  generalize t.kind = x0 at *
  generalize t.num = x1 at *
  generalize t.name = x2 at *
  generalize t.args.length = x3 at *
  go_enter Try.func26, Try.ntmps26
  go_wp2_with (first | (go_at_call 33; ((with_reducible refine CC.out.mono ?_); rintro e W2 ⟨rfl, bb⟩; have BB := Lib.hid bb; clear bb)))
  go_ret
  exact ⟨rfl, BB.out⟩
theorem same07_all (t : Tm) : SameC07 t := by
  induction t using Tm.ind with
  | h4 s l ih => exact fun va vb w ha hb => same07_step _ va vb w ha hb ih
  | _ => exact fun va vb w ha hb => same07_step _ va vb w ha hb (by simp [Tm.args])
end Go.Proofs.Ytmffobadnmkpbaa
namespace Go.Proofs.Ytmffobadnmkpbaa
open Go.RowKit

set_option maxRecDepth 100000 in
set_option maxHeartbeats 6400000 in
theorem termSorts_any (s : ByteArray) (w : World) : Calls Try.prog 7 #[.string s] w fun e w' => e = .returned (.bool true) ∧ Below w.heap.size w w' := by
  obtain ⟨i0, hi, hz0, hz1, hz2⟩ := info_parts Try.infoTerm
  have CS := Lib.hid (some_c s w)
  go_enter Try.func7, Try.ntmps7
  go_upto_region 2 with (first | (go_at_call 22; ((with_reducible refine CS.out.mono ?_); rintro e W1 ⟨v, l, rfl, ts, hf, hl, b1⟩; obtain ⟨va, vc, rfl, _⟩ := ts.shape; have TS := Lib.hid ts; have HF := Lib.hid hf; have B1 := Lib.hid b1; clear ts hf b1)))
  clear CS
  -- the list of its own
  obtain ⟨L, hL, hLs, hLt⟩ := TS.out.to_sl
  have HLl : Hid (L.length = l.length) := by show _ = _; rw [← hL, List.length_map]
  have HLf := Lib.hid hL
  have BA : Hid (Below W1.heap.size W1 (W1.alloc (.cells #[] 24))) := (Below.refl _ _).alloc (Nat.le_refl _) _
  have T0 : Hid (OwnTs (fun b => b < W1.heap.size) W1.heap.size (W1.alloc (.cells #[] 24)) (.slice (some ⟨W1.heap.size, 0, none⟩) 0 0) []) := OwnTs.made _ W1
  have SA : Hid (SlAt (W1.alloc (.cells #[] 24)) 4 (.slice va l.length vc) l.length (tmCs L)) := hLs.below BA.out
  have SO : Hid (∀ u ∈ tmCs L, u.oneCell' = true) := tmCs_one hLt
  have ST : Hid (∀ x ∈ L, TmAt (fun b => (Value.slice (some ⟨W1.heap.size, 0, none⟩) 0 0).ownBlock ≠ some b ∧ b < W1.heap.size) (W1.alloc (.cells #[] 24)) x.1 x.2) := fun x hx => (hLt x hx).mono fun b hb _ => ⟨⟨fun e => by simp only [Value.ownBlock, Option.some.injEq] at e; omega, hb⟩, Below.heap_alloc _ _ b hb⟩
  have hB0 : W1.heap.size ≤ (W1.alloc (.cells #[] 24)).heap.size := by simp
  clear hL hLs hLt
  go_upto_region 4 with (first
    | (at_builtin; refine wpList_append_slX rfl (.tmp 13) (.tmp 14) 22 rfl W1.heap.size 24 i0 (.agg #[.int .i64 0, .int .i64 0, .string ByteArray.empty, .slice none 0 0]) 4 56 Try.underlying22 hi hz0 hz1 hz2 rfl (by decide) _ 0 [] rfl T0.out.own _ l.length (tmCs L) rfl SA.out SO.out ⟨by omega, by omega⟩ hB0 ?_; intro v3 W3 ho3 hb3 hk3 hl3; have O3 := Lib.hid ho3; have B3 := Lib.hid hb3; have K3 := Lib.hid hk3; have L3 := Lib.hid hl3; clear ho3 hb3 hk3 hl3))
  have T3 : Hid (OwnTs (fun b => b < W1.heap.size) W1.heap.size W3 v3 L) := by
    have h := T0.out.grow (X := L) ST.out (by rw [HLl.out]; exact O3.out) K3.out (lies_or L3.out)
    exact h
  have P3 : Hid (Below W1.heap.size W1 W3) := BA.out.trans B3.out
  have TA : Hid (TsAt (fun _ => True) W3 v3 l) := by have h := T3.out.at; rw [HLf.out] at h; exact h
  have TB : Hid (TsAt (fun _ => True) W3 (.slice va l.length vc) l) := TS.out.later P3.out
  obtain ⟨a3, c3, rfl, _⟩ := TA.out.shape
  have HOK : Hid (∀ t ∈ l, t.ok ∧ t.size ≤ 1000000) := fun t ht => ⟨(HF.out t ht).1, by have := (HF.out t ht).2; omega⟩
  clear T0 SA SO ST O3 K3 L3 T3 BA TS hB0
  have CT := Lib.hid (termSort_c _ l W3 TA.out HOK.out (by omega))
  go_upto_region 5 with (first
    | (go_at_call 31; ((with_reducible refine CT.out.mono ?_); rintro e W4 ⟨ra, rc, R, rfl, hR, hD, hB⟩; have TR := Lib.hid hR; have D4 := Lib.hid hD; have B4 := Lib.hid hB; clear hR hD hB)))
  have TB4 : Hid (TsAt (fun _ => True) W4 (.slice va l.length vc) l) := TB.out.later B4.out
  have TA4 : Hid (TsAt (fun _ => True) W4 (.slice a3 l.length c3) l) := TA.out.later B4.out
  have CR := Lib.hid (refSort_c _ l W4 TB4.out (by omega))
  clear CT TB TA
  go_upto_region 6 with (first
    | (go_at_call 32; ((with_reducible refine CR.out.mono ?_); rintro e W5 ⟨sa, sc, R2, rfl, hR, hD, hB⟩; obtain rfl := Dd.agree D4.out hD (fun _ => Iff.rfl); have TS5 := Lib.hid hR; have B5 := Lib.hid hB; clear hR hD hB)))
  have TR5 : Hid (TsAt (fun _ => True) W5 (.slice ra R.length rc) R) := TR.out.later B5.out
  have TB5 : Hid (TsAt (fun _ => True) W5 (.slice va l.length vc) l) := TB4.out.later B5.out
  have TA5 : Hid (TsAt (fun _ => True) W5 (.slice a3 l.length c3) l) := TA4.out.later B5.out
  have CX : Hid (∀ W, Below W5.heap.size W5 W → Calls Try.prog 33 #[.slice ra R.length rc, .slice sa R.length sc] W fun e w' => e = .returned (.bool true) ∧ Below W.heap.size W w') := fun W h => sames07_c _ _ R W (TR5.out.later h) (TS5.out.later h) (fun t _ => same07_all t)
  have CY : Hid (∀ W, Below W5.heap.size W5 W → Calls Try.prog 33 #[.slice a3 l.length c3, .slice va l.length vc] W fun e w' => e = .returned (.bool true) ∧ Below W.heap.size W w') := fun W h => sames07_c _ _ l W (TA5.out.later h) (TB5.out.later h) (fun t _ => same07_all t)
  have P5 : Hid (Below w.heap.size w W5) := B1.out.trans ((P3.out.trans ((B4.out.trans (B5.out.mono B4.out.size)).mono P3.out.size)).mono B1.out.size)
  clear CR TR TB4 TA4 TS5 TA5
  go_upto_region 8 with (first
    | (go_at_call 33; ((with_reducible refine (CX.out _ (Below.refl _ _)).mono ?_); rintro e W6 ⟨rfl, bb⟩; have B6 := Lib.hid bb; clear bb))
    | (go_at_call 33; ((with_reducible refine (CY.out _ B6.out).mono ?_); rintro e W7 ⟨rfl, bb⟩; have B7 := Lib.hid (B6.out.trans (bb.mono B6.out.size)); clear bb)))
  clear CX CY B6
  have TR7 : Hid (TsAt (fun _ => True) W7 (.slice ra R.length rc) R) := TR5.out.later B7.out
  have TB7 : Hid (TsAt (fun _ => True) W7 (.slice va l.length vc) l) := TB5.out.later B7.out
  have P7 : Hid (Below w.heap.size w W7) := P5.out.trans (B7.out.mono P5.out.size)
  have hRl : R.length ≤ 9223372036854775807 := by obtain ⟨_, _, he, h1, h2⟩ := TR7.out.shape; simp only [Value.slice.injEq, true_and] at he; obtain ⟨rfl, rfl⟩ := he; unfold maxLen at h2; omega
  have HRi : Hid (Rise R) := D4.out.1
  have HRm : Hid (∀ t, t ∈ l → t ∈ R) := fun t ht => (D4.out.2 t).2 (by rw [List.take_length]; exact ht)
  clear D4 TR5 TB5 P5
  go_wp2
  go_loopg [7] (R.length - 1) (fun f s wr => ∃ k : Nat, 1 ≤ k ∧ (k ≤ R.length ∨ k = 1) ∧ s = .int .i64 k ∧ Hid (f = R.length - k) ∧ Hid (Below W7.heap.size W7 wr))
  case atStart => exact ⟨1, by omega, .inr rfl, rfl, rfl, Below.refl _ _⟩
  case round =>
    obtain ⟨k, hk1, hk, rfl, HN, HW⟩ := hrel
    by_cases hlt : k < R.length
    · obtain ⟨b, off, a1, he, -, c1, t1⟩ := (TR7.out.later HW.out).get k hlt
      have hlt2 : k - 1 < R.length := by omega
      obtain ⟨b', off', a2, he', -, c2, t2⟩ := (TR7.out.later HW.out).get (k - 1) hlt2
      obtain rfl := he
      simp only [Option.some.injEq, Addr.mk.injEq, and_true] at he'
      obtain ⟨rfl, rfl⟩ := he'
      obtain ⟨p1, q1, rfl, _⟩ := t1.shape
      obtain ⟨p2, q2, rfl, _⟩ := t2.shape
      have hcm : cmpT R[k - 1] R[k] = -1 := by
        have h1 := rise_get HRi.out hlt (show k - 1 < k by omega)
        rcases sg_cmpT R[k - 1] R[k] with h | h | h <;> omega
      generalize R[k] = x at *
      generalize R[k - 1] = y at *
      have CC : Hid (∀ W, Below wr.heap.size wr W → Calls Try.prog 23 #[.agg #[.int .i64 y.kind, .int .i64 y.num, .string y.name, .slice p2 y.args.length q2], .agg #[.int .i64 x.kind, .int .i64 x.num, .string x.name, .slice p1 x.args.length q1]] W fun e w' => e = .returned (.int .i64 (-1)) ∧ Below W.heap.size W w') := fun W h => by
        have h := compareT_c y x _ _ W (t2.later h) (t1.later h)
        rw [hcm] at h; exact h
      have KK : Hid (∀ W, Below wr.heap.size wr W → CellsT W b (off + (k - 1) * 4) y (.slice p2 y.args.length q2) ∧ CellsT W b (off + k * 4) x (.slice p1 x.args.length q1)) := fun W h => ⟨c2.block (h.block _ c2.lt), c1.block (h.block _ c1.lt)⟩
      have hbr := c1.lt
      obtain ⟨x0, x1, x2, x3⟩ := c1
      obtain ⟨y0, y1, y2, y3⟩ := c2
      have ki1 : (1 : Int) ≤ k := by omega
      have kiw : IntKind.i64.wrap ((k : Int) - 1) = (k : Int) - 1 := by simp [IntKind.wrap, IntKind.bits, IntKind.signed]; omega
      have ki0 : (0 : Int) ≤ (k : Int) - 1 := by omega
      have kin : (k : Int) ≤ R.length := by omega
      have kin2 : (k : Int) < R.length := by omega
      have kin3 : (k : Int) - 1 < R.length := by omega
      have kit : ((k : Int) - 1).toNat = k - 1 := by omega
      clear hcm t1 t2 hlt2
      go_upto_region 11 with (fail)
      go_region_held3 (fun W => W.cell? ⟨b, off + (k - 1) * 4, none⟩ = some (.int .i64 y.kind) ∧ W.cell? ⟨b, off + (k - 1) * 4 + 1, none⟩ = some (.int .i64 y.num) ∧ W.cell? ⟨b, off + (k - 1) * 4 + 2, none⟩ = some (.string y.name) ∧ W.cell? ⟨b, off + (k - 1) * 4 + 3, none⟩ = some (.slice p2 y.args.length q2) ∧ W.cell? ⟨b, off + k * 4, none⟩ = some (.int .i64 x.kind) ∧ W.cell? ⟨b, off + k * 4 + 1, none⟩ = some (.int .i64 x.num) ∧ W.cell? ⟨b, off + k * 4 + 2, none⟩ = some (.string x.name) ∧ W.cell? ⟨b, off + k * 4 + 3, none⟩ = some (.slice p1 x.args.length q1))
        ((first | exact cells_two (KK.out _ P2.out) | (refine cells_two (KK.out _ ?_); go_grown)))
        (first | (go_at_call 23; refine (CC.out _ ?_).mono ?_; (· go_grown); rintro e W2 ⟨rfl, bb⟩; have P2 : Hid (Below wr.heap.size wr W2) := Below.trans (B := wr.heap.size) (by go_grown) (bb.mono (by go_size))))
      go_wp2
      go_roundg (R.length - (k + 1))
      case measure => have := HN.out; omega
      case rel => exact ⟨k + 1, by omega, .inl (by omega), by go_num, rfl, HW.out.trans (P2.out.mono HW.out.size)⟩
    · obtain ⟨W8, hW8⟩ : ∃ W8, W8 = wr := ⟨_, rfl⟩
      subst hW8
      have TR8 : Hid (TsAt (fun _ => True) W8 (.slice ra R.length rc) R) := TR7.out.later HW.out
      have TB8 : Hid (TsAt (fun _ => True) W8 (.slice va l.length vc) l) := TB7.out.later HW.out
      have P8 : Hid (Below w.heap.size w W8) := P7.out.trans (HW.out.mono P7.out.size)
      have hki : ¬ (k : Int) < R.length := by omega
      clear HW TR7 TB7 P7 HN
      go_wp2
      go_loopg [8] l.length (fun f s wr => ∃ i : Nat, i ≤ l.length ∧ s = .int .i64 i ∧ Hid (f = l.length - i) ∧ Hid (Below W8.heap.size W8 wr))
      case atStart => exact ⟨0, by omega, rfl, rfl, Below.refl _ _⟩
      case round =>
        obtain ⟨i, hi', rfl, HN, HW⟩ := hrel
        by_cases hlt : i < l.length
        · obtain ⟨b, off, a1, rfl, -, c1, t1⟩ := (TB8.out.later HW.out).get i hlt
          obtain ⟨p1, q1, rfl, _⟩ := t1.shape
          obtain ⟨j0, hj0, hjx⟩ := List.getElem_of_mem (HRm.out _ (List.getElem_mem hlt))
          have HJ : Hid (∀ k (hk : k < R.length), cmpT R[k] l[i] ≠ 0 → k ≠ j0) := fun k hk h e => by subst e; rw [hjx, cmpT_self] at h; exact h rfl
          clear hjx
          generalize l[i] = x at *
          obtain ⟨W9, hW9⟩ : ∃ W9, W9 = wr := ⟨_, rfl⟩
          subst hW9
          have KX : Hid (∀ W, Below W9.heap.size W9 W → CellsT W b (off + i * 4) x (.slice p1 x.args.length q1) ∧ TmAt (fun _ => True) W x (.slice p1 x.args.length q1)) := fun W h => ⟨c1.block (h.block _ c1.lt), t1.later h⟩
          have TR9 : Hid (TsAt (fun _ => True) W9 (.slice ra R.length rc) R) := TR8.out.later HW.out
          clear c1 t1
          go_wp2
          go_loopg [9] j0 (fun f s wr => ∃ k : Nat, k ≤ j0 ∧ s = .int .i64 k ∧ Hid (f = j0 - k) ∧ Hid (Below W9.heap.size W9 wr))
          case atStart => exact ⟨0, by omega, rfl, rfl, Below.refl _ _⟩
          case round =>
            obtain ⟨m, hm, rfl, HN2, HW2⟩ := hrel
            have hmR : m < R.length := by omega
            obtain ⟨b', off', a2, rfl, -, c2, t2⟩ := (TR9.out.later HW2.out).get m hmR
            obtain ⟨p2, q2, rfl, _⟩ := t2.shape
            obtain ⟨c1, t1⟩ := KX.out wr HW2.out
            have HJ2 : Hid (cmpT R[m] x ≠ 0 → m ≠ j0) := HJ.out m hmR
            generalize R[m] = y at *
            have CC : Hid (∀ W, Below wr.heap.size wr W → Calls Try.prog 23 #[.agg #[.int .i64 y.kind, .int .i64 y.num, .string y.name, .slice p2 y.args.length q2], .agg #[.int .i64 x.kind, .int .i64 x.num, .string x.name, .slice p1 x.args.length q1]] W fun e w' => e = .returned (.int .i64 (cmpT y x)) ∧ Below W.heap.size W w') := fun W h => compareT_c y x _ _ W (t2.later h) (t1.later h)
            have KK : Hid (∀ W, Below wr.heap.size wr W → CellsT W b' (off' + m * 4) y (.slice p2 y.args.length q2) ∧ CellsT W b (off + i * 4) x (.slice p1 x.args.length q1)) := fun W h => ⟨c2.block (h.block _ c2.lt), c1.block (h.block _ c1.lt)⟩
            have hbr := c1.lt
            have hbr2 := c2.lt
            obtain ⟨x0, x1, x2, x3⟩ := c1
            obtain ⟨y0, y1, y2, y3⟩ := c2
            generalize cmpT y x = z at *
            clear t1 t2
            go_upto_region 17 with (fail)
            go_region_held3 (fun W => W.cell? ⟨b', off' + m * 4, none⟩ = some (.int .i64 y.kind) ∧ W.cell? ⟨b', off' + m * 4 + 1, none⟩ = some (.int .i64 y.num) ∧ W.cell? ⟨b', off' + m * 4 + 2, none⟩ = some (.string y.name) ∧ W.cell? ⟨b', off' + m * 4 + 3, none⟩ = some (.slice p2 y.args.length q2) ∧ W.cell? ⟨b, off + i * 4, none⟩ = some (.int .i64 x.kind) ∧ W.cell? ⟨b, off + i * 4 + 1, none⟩ = some (.int .i64 x.num) ∧ W.cell? ⟨b, off + i * 4 + 2, none⟩ = some (.string x.name) ∧ W.cell? ⟨b, off + i * 4 + 3, none⟩ = some (.slice p1 x.args.length q1))
              ((first | exact cells_two (KK.out _ P2.out) | (refine cells_two (KK.out _ ?_); go_grown)))
              (first | (go_at_call 23; refine (CC.out _ ?_).mono ?_; (· go_grown); rintro e W2 ⟨rfl, bb⟩; have P2 : Hid (Below wr.heap.size wr W2) := Below.trans (B := wr.heap.size) (by go_grown) (bb.mono (by go_size))))
            clear x0 x1 x2 x3 y0 y1 y2 y3
            by_cases hz : z = 0
            · subst hz
              have hne : ((m : Int) == R.length) = false := by simp; omega
              go_wp2
              go_roundg (l.length - (i + 1))
              case measure => have := HN.out; omega
              case rel => exact ⟨i + 1, by omega, by go_num, rfl, HW.out.trans ((HW2.out.trans (P2.out.mono HW2.out.size)).mono HW.out.size)⟩
            · have hzb : (z != 0) = true := by simpa using hz
              have hmj : m ≠ j0 := HJ2.out hz
              go_wp2
              go_roundg (j0 - (m + 1))
              case measure => have := HN2.out; omega
              case rel => exact ⟨m + 1, by omega, by go_num, rfl, HW2.out.trans (P2.out.mono HW2.out.size)⟩
        · obtain rfl : i = l.length := by omega
          go_wp2
          go_ret
          exact ⟨rfl, P8.out.trans (HW.out.mono P8.out.size)⟩
end Go.Proofs.Ytmffobadnmkpbaa
