/-
  The law IndexKeeps, walked.
-/
import Derived.Test.YtmffobadnmkpbaaKidx5
import Derived.Test.YtmffobadnmkpbaaKidx6
namespace Go.Proofs.Ytmffobadnmkpbaa
open Go.RowKit

theorem ik_parts {W : World} {b1 o1 b2 o2 : Nat} {ta tb : Tm} {u v : Value} (h : CellsT W b1 o1 ta u ∧ CellsT W b2 o2 tb v) :
    W.cell? ⟨b1, o1, none⟩ = some (.int .i64 ta.kind) ∧ W.cell? ⟨b1, o1 + 1, none⟩ = some (.int .i64 ta.num) ∧ W.cell? ⟨b1, o1 + 2, none⟩ = some (.string ta.name) ∧ W.cell? ⟨b1, o1 + 3, none⟩ = some u ∧ W.cell? ⟨b2, o2, none⟩ = some (.int .i64 tb.kind) ∧ W.cell? ⟨b2, o2 + 1, none⟩ = some (.int .i64 tb.num) ∧ W.cell? ⟨b2, o2 + 2, none⟩ = some (.string tb.name) ∧ W.cell? ⟨b2, o2 + 3, none⟩ = some v :=
  ⟨h.1.c0, h.1.c1, h.1.c2, h.1.c3, h.2.c0, h.2.c1, h.2.c2, h.2.c3⟩
theorem grow_drew {B : Nat} {w W1 Wc : World} (h1 : Below B w W1) (hB : B ≤ W1.heap.size) (hc : Below W1.heap.size W1 Wc) : Below B w Wc := h1.trans (hc.mono hB)
theorem grow_step {B : Nat} {w W1 Wc W2 : World} (h1 : Below B w W1) (hB : B ≤ W1.heap.size) (hc : Below W1.heap.size W1 Wc) (h2 : Below Wc.heap.size Wc W2) : Below B w W2 := h1.trans ((hc.trans (h2.mono hc.size)).mono hB)
set_option maxRecDepth 100000 in
set_option maxHeartbeats 6400000 in
theorem indexKeeps_any (s0 s1 : ByteArray) (w : World) : Calls Try.prog 11 #[.string s0, .string s1] w fun e w' => e = .returned (.bool true) ∧ Below w.heap.size w w' := by
  have CO : Hid (∀ s W, Calls Try.prog 45 #[.string s] W (RetSome12 W)) := fun s W => some12_c s W
  have CC : Hid (∀ W, Calls Try.prog 46 #[.agg #[.int .i64 3, .int .i64 0, .string ⟨#[97]⟩, .slice none 0 0], .agg #[.int .i64 2, .int .i64 2, .string ⟨#[]⟩, .slice none 0 0]] W fun e w' => e = .returned (.bool true) ∧ Below W.heap.size W w') := fun W => by
    have h := clash_c (.atom ⟨#[97]⟩) (.int 2) none none 0 0 W (.atom (by decide)) (.int (by decide) (by decide))
    have e : clashT (.atom ⟨#[97]⟩) (.int 2) = true := by simp [clashT, keyK, Tm.kind]
    rw [e] at h; exact h
  go_enter Try.func11, Try.ntmps11
  go_upto_region 2 with (first | (go_at_call 45; ((with_reducible refine (CO.out _ _).mono ?_); rintro e W1 ⟨v1, H, rfl, th, fh, lh, bb⟩; obtain ⟨ha, hc, rfl, _⟩ := th.shape; have TH := Lib.hid th; have FH := Lib.hid fh; have LH := Lib.hid lh; have B1 := Lib.hid bb; clear th fh lh bb)))
  go_upto_region 3 with (first | (go_at_call 45; ((with_reducible refine (CO.out _ _).mono ?_); rintro e W2 ⟨v2, G, rfl, tg, fg, lg, bb⟩; obtain ⟨ga, gc, rfl, _⟩ := tg.shape; have TG := Lib.hid tg; have FG := Lib.hid fg; have LG := Lib.hid lg; have B2 := Lib.hid (B1.out.trans (bb.mono B1.out.size)); have TH2 := Lib.hid (TH.out.later bb); clear tg fg lg bb)))
  have hH60 : H.length ≤ 60 := LH.out
  have hG60 : G.length ≤ 60 := LG.out
  cases hg0 : ((G.length : Int) == 0) with
  | true =>
    go_wp2_with (first | (go_at_call 46; ((with_reducible refine (CC.out _).mono ?_); rintro e W3 ⟨rfl, bb⟩; have B3 := Lib.hid bb; clear bb)))
    go_ret
    exact ⟨rfl, B2.out.trans (B3.out.mono B2.out.size)⟩
  | false =>
    go_upto_region 6 with fail
    go_loopg [7] G.length (fun m iv wr => ∃ i : Nat, i ≤ G.length ∧ iv = .int .i64 i ∧ Hid (m = G.length - i) ∧ Hid (Below W2.heap.size W2 wr))
    case atStart => exact ⟨0, by omega, rfl, rfl, Below.refl _ _⟩
    case round =>
      obtain ⟨i, hi, rfl, HN, HW⟩ := hrel
      obtain ⟨wo, rfl⟩ : ∃ wo, wo = wr := ⟨_, rfl⟩
      have BW : Hid (Below w.heap.size w wo) := B2.out.trans (HW.out.mono B2.out.size)
      by_cases hlt : i < G.length
      · have hki : (i : Int) < G.length := by omega
        have HGO := Lib.hid (FG.out _ (List.getElem_mem hlt))
        obtain ⟨b, off, a1, rfl, -, hcc, hta⟩ := (TG.out.later HW.out).get i hlt
        obtain ⟨p1, q1, rfl, _⟩ := hta.shape
        generalize G[i] = g at *
        have HTG := Lib.hid hta
        have HOK : Hid (∀ t ∈ H, t.ok) := fun t ht => (FH.out t ht).1
        have THW := Lib.hid (TH2.out.later HW.out)
        have HCG := Lib.hid hcc
        have CW1 : Hid (Calls Try.prog 47 #[.slice ha H.length hc, .agg #[.int .i64 g.kind, .int .i64 g.num, .string g.name, .slice p1 g.args.length q1]] wo (RetWhich (whichA H g) wo)) := which_all _ H g _ wo THW.out (by omega) hta HOK.out HGO.out.1
        have CW2 : Hid (∀ W, Below wo.heap.size wo W → Calls Try.prog 49 #[.slice ha H.length hc, .agg #[.int .i64 g.kind, .int .i64 g.num, .string g.name, .slice p1 g.args.length q1]] W (RetWhich (whichA H g) W)) := fun W h => refWhich_all _ H g _ W (THW.out.later h) (by omega) (HTG.out.later h) HOK.out HGO.out.1
        have WF := Lib.hid (walkF H g)
        have HNO : Hid (∀ (k : Nat) (hk : k < H.length), g.named = true → H[k].kind ≠ 1 → keepA H g k = false → Unl2 (shT H[k]) g) := fun k hk hn h1 h => keepA_no hk (HOK.out _ (List.getElem_mem hk)) HGO.out.1 hn h1 h
        generalize whichA H g = Lw at *
        generalize keepA H g = pk at *
        generalize cntA H g = ck at *
        have hLw : Lw.length ≤ 60 := by have h1 := WF.out.len; have h2 := WF.out.le; omega
        have CSI : Hid (∀ W x y, IsAt W x Lw → IsAt W y Lw → Calls Try.prog 48 #[x, y] W fun e w' => e = .returned (.bool true) ∧ Below W.heap.size W w') := fun W x y hx hy => by
          have h := sameInts12_c x y Lw Lw W hx hy (by omega)
          simpa using h
        clear hta hcc
        obtain ⟨x0, x1, x2, x3⟩ := HCG.out
        go_upto_region 9 with (first | (go_at_call 47; ((with_reducible refine CW1.out.mono ?_); rintro e W3 ⟨wa, wc, rfl, is3, bb⟩; have I3 : Hid (IsAt W3 (.slice wa Lw.length wc) Lw) := is3; have B3 := Lib.hid bb; clear bb is3)))
        have HC3 := Lib.hid (HCG.out.block (B3.out.block _ HCG.out.lt))
        clear x0 x1 x2 x3
        obtain ⟨x0, x1, x2, x3⟩ := HC3.out
        go_upto_region 11 with (first
          | (go_at_call 49; ((with_reducible refine (CW2.out _ B3.out).mono ?_); rintro e W4 ⟨ra, rc, rfl, is4, bb⟩; have I4 : Hid (IsAt W4 (.slice ra Lw.length rc) Lw) := is4; have I34 := Lib.hid (I3.out.below bb); have B4 := Lib.hid (B3.out.trans (bb.mono B3.out.size)); clear bb is4))
          | (go_at_call 48; ((with_reducible refine (CSI.out _ _ _ I34.out I4.out).mono ?_); rintro e W5 ⟨rfl, bb⟩; have I5 := Lib.hid (I34.out.below bb); have B5 := Lib.hid (B4.out.trans (bb.mono B4.out.size)); clear bb)))
        clear x0 x1 x2 x3
        go_upto_region 13 with fail
        go_loopg [9, 10] H.length (fun m av kv wr => ∃ k : Nat, k ≤ H.length ∧ av = .int .i64 (ck k) ∧ kv = .int .i64 k ∧ Hid (m = H.length - k) ∧ Hid (Below W5.heap.size W5 wr))
        case atStart => exact ⟨0, by omega, by rw [WF.out.z]; rfl, rfl, rfl, Below.refl _ _⟩
        case round =>
          obtain ⟨k, hk, rfl, rfl, HM, HQ⟩ := hrel
          have BQ : Hid (Below wo.heap.size wo wr) := B5.out.trans (HQ.out.mono B5.out.size)
          by_cases hlk : k < H.length
          · have hkk : (k : Int) < H.length := by omega
            have HKO := Lib.hid (FH.out _ (List.getElem_mem hlk))
            have HNK := Lib.hid (HNO.out k hlk)
            have HYES := Lib.hid (WF.out.yes k hlk)
            have HNOT := Lib.hid (WF.out.no k hlk)
            obtain ⟨b2, o2, a2, rfl, -, hcc2, hth⟩ := (THW.out.later BQ.out).get k hlk
            obtain ⟨p2, q2, rfl, _⟩ := hth.shape
            generalize H[k] = h at *
            have HTH := Lib.hid hth
            have HC2 := Lib.hid hcc2
            have HCG2 := Lib.hid (HCG.out.block (BQ.out.block _ HCG.out.lt))
            clear hth hcc2
            have SMS : Hid (SmT (shT h)) := ⟨vsOk_sh HKO.out.1, by rw [size_sh]; have := HKO.out.2; omega⟩
            have SMG : Hid (SmT g) := ⟨vsOk_of HGO.out.1, by have := HGO.out.2; omega⟩
            have CN : Hid (∀ W, Calls Try.prog 50 #[] W (RetNew W)) := fun W => new_c W
            have CSH : Hid (∀ W, Below wr.heap.size wr W → Calls Try.prog 52 #[.agg #[.int .i64 h.kind, .int .i64 h.num, .string h.name, .slice p2 h.args.length q2], .int .i64 1000] W (RetTm7 (shT h) W)) := fun W hW => sh_all h _ W (HTH.out.later hW) HKO.out.1 (by have := HKO.out.2; omega)
            generalize shT h = S at *
            have CUN : Hid (∀ (W2 W : World) (p : Nat) (sa : Option Addr) (sc : Nat), Below wr.heap.size wr W2 → BoxL W2 p [.slice none 0 0] → wr.heap.size ≤ p → TmAt (fun _ => True) W2 S (.slice sa S.args.length sc) → Below W2.heap.size W2 W → Calls Try.prog 51 #[.pointer (some ⟨p, 0, none⟩), .agg #[.int .i64 S.kind, .int .i64 S.num, .string S.name, .slice sa S.args.length sc], .agg #[.int .i64 g.kind, .int .i64 g.num, .string g.name, .slice p1 g.args.length q1]] W fun e w' => ∃ v z, e = .returned (.tuple #[v, .int .i64 z]) ∧ (Unl2 S g → z ≠ 0) ∧ Below wr.heap.size wr w') := fun W2 W p sa sc hb hx hp hs hw => by
              have hbw : Below wr.heap.size wr W := hb.trans (hw.mono hb.size)
              refine (unify_c p S g _ _ W (hx.below hw (hx.lt (by simp))) (hs.later hw) (HTG.out.later (BQ.out.trans (hbw.mono BQ.out.size))) SMS.out SMG.out).mono ?_
              rintro e w' ⟨v, z, h1, h2, h3⟩
              exact ⟨v, z, h1, h2, hbw.trans (h3.mono hp)⟩
            have KK : Hid (∀ W, Below wr.heap.size wr W → CellsT W b2 (o2 + k * 4) h (.slice p2 h.args.length q2) ∧ CellsT W b (off + i * 4) g (.slice p1 g.args.length q1)) := fun W hW => ⟨HC2.out.block (hW.block _ HC2.out.lt), HCG2.out.block (hW.block _ HCG2.out.lt)⟩
            clear HTH
            generalize pk k = pb at *
            go_upto_region 15 with fail
            go_cut [11] from 45 to 109 (fun tv wx => tv = .bool pb ∧ wr = wx)
            case first =>
              cases pb with
              | true =>
                obtain ⟨-, hl1, he⟩ := HYES.out (by first | rfl | trivial)
                obtain ⟨b3, o3, rfl, hw1, hw2, c3⟩ := IsAt.getR (I5.out.below HQ.out) (ck k) hl1
                rw [he] at c3
                have hcl : (ck k : Int) < Lw.length := by omega
                clear he
                go_wp2_with fail
                go_meet
                exact ⟨rfl, rfl⟩
              | false =>
                by_cases hl1 : ck k < Lw.length
                · obtain ⟨b3, o3, rfl, hw1, hw2, c3⟩ := IsAt.getR (I5.out.below HQ.out) (ck k) hl1
                  have he : (Lw[ck k] == (k : Int)) = false := by simpa using (HNOT.out (by first | rfl | trivial)).2 hl1
                  have hcl : (ck k : Int) < Lw.length := by omega
                  generalize Lw[ck k] = lx at *
                  go_wp2_with fail
                  go_meet
                  exact ⟨rfl, rfl⟩
                · have hcl : ¬ ((ck k : Int) < Lw.length) := by omega
                  go_wp2_with fail
                  go_meet
                  exact ⟨rfl, rfl⟩
            case rest =>
              obtain ⟨rfl, hwc⟩ := hcut
              subst hwc
              go_upto_if 63 with fail
              go_cut [9] from 45 to 109 (fun av wx => av = .int .i64 (ck (k + 1)) ∧ wr = wx)
              case first =>
                cases pb with
                | true =>
                  obtain ⟨-, hl1, -⟩ := HYES.out (by first | rfl | trivial)
                  have hl2 : ck k ≤ 60 := by omega
                  go_wp2_with fail
                  go_meet
                  exact ⟨by rw [(HYES.out (by first | rfl | trivial)).1]; go_num, rfl⟩
                | false =>
                  go_wp2_with fail
                  go_meet
                  exact ⟨by rw [(HNOT.out (by first | rfl | trivial)).1], rfl⟩
              case rest =>
                obtain ⟨rfl, hwc⟩ := hcut
                subst hwc
                have k0 := ik_parts (KK.out _ (Below.refl _ _))
                go_upto_region 18 with fail
                go_region_held3 (fun W => W.cell? ⟨b2, o2 + k * 4, none⟩ = some (.int .i64 h.kind) ∧ W.cell? ⟨b2, o2 + k * 4 + 1, none⟩ = some (.int .i64 h.num) ∧ W.cell? ⟨b2, o2 + k * 4 + 2, none⟩ = some (.string h.name) ∧ W.cell? ⟨b2, o2 + k * 4 + 3, none⟩ = some (.slice p2 h.args.length q2) ∧ W.cell? ⟨b, off + i * 4, none⟩ = some (.int .i64 g.kind) ∧ W.cell? ⟨b, off + i * 4 + 1, none⟩ = some (.int .i64 g.num) ∧ W.cell? ⟨b, off + i * 4 + 2, none⟩ = some (.string g.name) ∧ W.cell? ⟨b, off + i * 4 + 3, none⟩ = some (.slice p1 g.args.length q1))
                  ((first | exact ik_parts (KK.out _ P3.out) | exact ik_parts (KK.out _ (grow_drew P3.out P3.out.size (by go_grown))) | exact ik_parts (KK.out _ P2.out) | exact ik_parts (KK.out _ (grow_drew P2.out P2.out.size (by go_grown))) | exact ik_parts (KK.out _ P1.out) | exact ik_parts (KK.out _ (grow_drew P1.out P1.out.size (by go_grown))) | (refine ik_parts (KK.out _ ?_); go_grown)))
                  (first
                    | (go_at_call 50; refine (CN.out _).mono ?_; rintro e W1 ⟨p, rfl, hp, bx, bb⟩; have P1 : Hid (Below wr.heap.size wr W1) := grow_step (Below.refl _ _) (Nat.le_refl _) (by go_grown) bb; have HP : Hid (wr.heap.size ≤ p) := Nat.le_trans (Below.size (B := wr.heap.size) (w := wr) (by go_grown)) hp; have BX := Lib.hid bx; clear hp bx bb)
                    | (go_at_call 52; refine (CSH.out _ ?_).mono ?_; (· exact grow_drew P1.out P1.out.size (by go_grown)); rintro e W2 ⟨sa, sc, rfl, ts, bb⟩; have P2 : Hid (Below wr.heap.size wr W2) := grow_step P1.out P1.out.size (by go_grown) bb; have TS := Lib.hid ts.any; have BX2 : Hid (BoxL W2 p [.slice none 0 0]) := BX.out.below (grow_step (Below.refl W1.heap.size W1) (Nat.le_refl _) (by go_grown) bb) (BX.out.lt (by simp)); clear ts bb)
                    | (go_at_call 51; refine (CUN.out W2 _ p sa sc P2.out BX2.out HP.out TS.out ?_).mono ?_; (· go_grown); rintro e W3 ⟨v, z, rfl, hz, bb⟩; have P3 := Lib.hid bb; have HZ := Lib.hid hz; clear hz bb))
                clear k0
                obtain ⟨⟨c0, c1, c2, c3⟩, ⟨d0, d1, d2, d3⟩⟩ := KK.out _ P3.out
                have HZ2 : Hid (pb = false → g.named = true → h.kind ≠ 1 → z ≠ 0) := fun e1 e2 e3 => HZ.out (HNK.out e2 e3 e1)
                cases hz : (z == 0) with
                | false =>
                  go_wp2
                  go_roundg (H.length - (k + 1))
                  case measure => have := HM.out; omega
                  case rel => exact ⟨k + 1, by omega, rfl, by go_num, rfl, HQ.out.trans (P3.out.mono HQ.out.size)⟩
                | true =>
                  cases pb with
                  | true =>
                    go_wp2
                    go_roundg (H.length - (k + 1))
                    case measure => have := HM.out; omega
                    case rel => exact ⟨k + 1, by omega, rfl, by go_num, rfl, HQ.out.trans (P3.out.mono HQ.out.size)⟩
                  | false =>
                    have HN3 : Hid ((g.kind == 3) = true ∨ (g.kind == 4) = true → (h.kind != 1) = true → False) := fun e1 e2 => HZ2.out (by first | rfl | trivial) (by simpa [Tm.named] using e1) (by simpa using e2) (by simpa using hz)
                    cases hh : (h.kind != 1) with
                    | false =>
                      cases h3 : (g.kind == 3) <;> cases h4 : (g.kind == 4)
                      all_goals
                        go_wp2
                        go_roundg (H.length - (k + 1))
                        case measure => have := HM.out; omega
                        case rel => exact ⟨k + 1, by omega, rfl, by go_num, rfl, HQ.out.trans (P3.out.mono HQ.out.size)⟩
                    | true =>
                      cases h3 : (g.kind == 3) with
                      | true => exact (HN3.out (.inl h3) hh).elim
                      | false =>
                        cases h4 : (g.kind == 4) with
                        | true => exact (HN3.out (.inr h4) hh).elim
                        | false =>
                          go_wp2
                          go_roundg (H.length - (k + 1))
                          case measure => have := HM.out; omega
                          case rel => exact ⟨k + 1, by omega, rfl, by go_num, rfl, HQ.out.trans (P3.out.mono HQ.out.size)⟩
          · have hkk : ¬ ((k : Int) < H.length) := by omega
            obtain rfl : k = H.length := by omega
            have hce : ((ck H.length : Int) != (Lw.length : Int)) = false := by have := WF.out.len; simp; omega
            go_wp2
            go_roundg (G.length - (i + 1))
            case measure => have := HN.out; omega
            case rel => exact ⟨i + 1, by omega, by go_num, rfl, HW.out.trans (BQ.out.mono HW.out.size)⟩
      · have hki : ¬ ((i : Int) < G.length) := by omega
        go_wp2
        go_ret
        exact ⟨rfl, BW.out⟩
end Go.Proofs.Ytmffobadnmkpbaa
