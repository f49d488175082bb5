/-
  The law IndexFacts, walked.
  A LIST OF int8 THAT COMES IN (at the seats of terms).
-/
import Derived.Test.YtmffobadnmkpbaaKidx3
import Derived.Test.YtmffobadnmkpbaaRows
import Derived.Test.YtmffobadnmkpbaaKpars1
import Derived.Test.YtmffobadnmkpbaaKlib1
import Derived.Lib.SmallJoins
namespace Go.Proofs.Ytmffobadnmkpbaa
open Go.RowKit

theorem oneI4 {a b c d : Value} (h : a.oneCell' = true) (h2 : b.oneCell' = true) (h3 : c.oneCell' = true) (h4 : d.oneCell' = true) : ∀ u ∈ (#[a, b, c, d] : Array Value).toList, u.oneCell' = true := by
  intro u hu; simp at hu; rcases hu with rfl | rfl | rfl | rfl <;> assumption
theorem boxI4 {W : World} {b : Nat} {x0 x1 x2 x3 : Value} (h : BoxL W b [x0, x1, x2, x3]) (y0 y1 y2 y3 : Value) : BoxL ((((W.setCell ⟨b, 0, none⟩ y0).setCell ⟨b, 1, none⟩ y1).setCell ⟨b, 2, none⟩ y2).setCell ⟨b, 3, none⟩ y3) b [y0, y1, y2, y3] :=
  (((h.set 0 (by simp) y0).set 1 (by simp) y1).set 2 (by simp) y2).set 3 (by simp) y3
theorem belowI4 {B : Nat} {w W : World} (h : Below B w W) {c : Nat} (hc : B ≤ c) (y0 y1 y2 y3 : Value) : Below B w ((((W.setCell ⟨c, 0, none⟩ y0).setCell ⟨c, 1, none⟩ y1).setCell ⟨c, 2, none⟩ y2).setCell ⟨c, 3, none⟩ y3) :=
  (((h.setCell (p := ⟨c, 0, none⟩) hc _).setCell (p := ⟨c, 1, none⟩) hc _).setCell (p := ⟨c, 2, none⟩) hc _).setCell (p := ⟨c, 3, none⟩) hc _
/-- what hands back a list so long -/
def RetLen (n : Nat) (w : World) (e : Ending) (w' : World) : Prop := ∃ a c, e = .returned (.slice a n c) ∧ Below w.heap.size w w'
theorem varT_at {w : World} {z : Int} {T : TypeId} : TmAt (fun _ => True) (w.alloc (.cells #[.int .i64 1, .int .i64 3, .string ⟨#[]⟩, .slice none 0 0] T)) (goalT z true) (.slice (some ⟨w.heap.size, 0, none⟩) 1 1) := by
  have hb := BoxL.mk' w #[.int .i64 1, .int .i64 3, .string ⟨#[]⟩, .slice none 0 0] T
  refine .node (av0 := fun _ => .slice none 0 0) (by simp) (by simp) (by decide) trivial (fun i hi => ?_) (fun i hi => ?_)
  · have : i = 0 := by simp at hi; omega
    subst this
    exact ⟨(hb.get 0 rfl).1, (hb.get 1 rfl).1, (hb.get 2 rfl).1, (hb.get 3 rfl).1⟩
  · have : i = 0 := by simp at hi; omega
    subst this
    exact .leaf rfl
set_option maxRecDepth 1000000 in
set_option maxHeartbeats 6400000 in
theorem indexFacts_any (vz : Value) (zs : List Int) (z : Int) (op : Bool) (w : World) (hz : SlAt w 1 vz zs.length (zs.map (Value.int .i8))) (hb : ∀ x ∈ zs, -128 ≤ x ∧ x ≤ 127) (hz8 : -128 ≤ z ∧ z ≤ 127) :
    Calls Try.prog 12 #[vz, .int .i8 z, .bool op] w fun e w' => e = .returned (.bool true) ∧ Below w.heap.size w w' := by
  obtain ⟨ao, cap, rfl, _⟩ := SlAt.shape hz
  by_cases hl : 100 < zs.length
  · have hl' : (100 : Int) < zs.length := by omega
    go_enter Try.func12, Try.ntmps12
    go_wp2
    go_ret
    exact ⟨rfl, Below.refl _ _⟩
  obtain ⟨i0, hi, hz0, hz1, hz2⟩ := info_parts Try.infoInt
  obtain ⟨t0, ht, ht0, ht1, ht2⟩ := info_parts Try.infoTerm
  have hl' : ¬ ((100 : Int) < zs.length) := by omega
  have HZ := Lib.hid hz
  have HB := Lib.hid hb
  have F0 := Lib.hid (FL.start w)
  clear hz hb
  go_enter Try.func12, Try.ntmps12
  go_wp2
  go_loopg [7, 8, 9] zs.length (fun f vh vw s wr => ∃ (k : Nat) (L : List (Tm × Value)) (M : List Int), k ≤ zs.length ∧ s = .int .i64 k ∧ L.length = k ∧ M.length ≤ k ∧ Hid (f = zs.length - k) ∧ Hid (L.map Prod.fst = (zs.take k).map factT) ∧ Hid (M = wantL zs z op k) ∧ Hid (FL w.heap.size w wr vh vw L M))
  case atStart => exact ⟨0, [], [], by omega, rfl, rfl, by simp, rfl, Lib.hid rfl, rfl, F0.out⟩
  case round =>
    obtain ⟨k, L, M, hk, rfl, hLk, hMk, HN, HL, HM, HF⟩ := hrel
    have hsz : w.heap.size ≤ wr.heap.size := HF.out.bel.size
    obtain ⟨ha, hc, rfl, _⟩ := HF.out.ts.shape
    obtain ⟨wa, wc, rfl, _⟩ := (SlAt.of_own HF.out.ow).shape
    by_cases hlt : k < zs.length
    · obtain ⟨bz, oz, cz, hvz, _, _, hbz, hcz⟩ := SlAt.pos HZ.out (by omega)
      simp only [Value.slice.injEq] at hvz
      obtain ⟨rfl, -, -⟩ := hvz
      have hcell0 : w.cell? ⟨bz, oz + k, none⟩ = some (.int .i8 zs[k]) := by rw [hcz k (by omega)]; simp [hlt]
      have hb8 := HB.out _ (List.getElem_mem hlt)
      have HLS : Hid (L.map Prod.fst ++ [factT zs[k]] = (zs.take (k + 1)).map factT) := by show _ = _; rw [List.take_succ_eq_append_getElem hlt, List.map_append, HL.out]; rfl
      have HWS := Lib.hid (wantL_step zs z op k hlt)
      have KC : Hid (∀ W, Below w.heap.size w W → W.cell? ⟨bz, oz + k, none⟩ = some (.int .i8 zs[k])) := fun W hW => (hW.cell (p := ⟨bz, oz + k, none⟩) hbz).trans hcell0
      have hcell := KC.out wr HF.out.bel
      generalize zs[k] = x at *
      have hw1 : IntKind.i64.wrap x = x := IntWalk.i64_in _ (by omega)
      have hltI : (k : Int) < zs.length := by omega
      clear hcell0 hcz
      go_upto_region 10 with (at_builtin; refine wpList_appendX rfl (.tmp 31) (.tmp 34) 22 rfl w.heap.size 24 t0 (.agg #[.int .i64 0, .int .i64 0, .string ByteArray.empty, .slice none 0 0]) 4 56 Try.underlying22 ht ht0 ht1 ht2 rfl (by decide) _ L.length (tmCs L) rfl (own_below HF.out.ts.own (below_one wr _)) _ _ rfl (World.size_alloc _ _) rfl (oneI4 rfl rfl rfl rfl) ⟨by omega, by omega⟩ (Nat.le_trans hsz (below_one wr _).size) ?_; intro g cap W5 ho5 hb5 hk5 hl5; have F5 := Lib.hid (HF.out.head hsz ho5 hb5 hk5 hl5); clear ho5 hb5 hk5 hl5)
      have hc5 := KC.out W5 F5.out.bel
      have hs5 : w.heap.size ≤ W5.heap.size := F5.out.bel.size
      have hb5 : bz < W5.heap.size := by omega
      have HL6 : Hid ((L ++ [(factT x, Value.slice (some ⟨wr.heap.size, 0, none⟩) 1 1)]).map Prod.fst = (zs.take (k + 1)).map factT) := by show _ = _; rw [← HLS.out]; simp
      clear HLS hcell KC
      generalize hr : (x == z) = r at *
      cases op with
      | true =>
        have HW2 : Hid (M ++ [(k : Int)] = wantL zs z true (k + 1)) := by show _ = _; rw [HWS.out, HM.out]; simp
        go_wp2_with (at_builtin; refine wpList_appendX rfl (.tmp 45) (.tmp 47) 29 rfl w.heap.size 3 i0 (.int .i64 0) 1 8 Try.underlying29 hi hz0 hz1 hz2 rfl (by decide) _ M.length (M.map (Value.int .i64)) rfl F5.out.ow _ _ rfl rfl rfl (one1 rfl) ⟨by omega, by omega⟩ hs5 ?_; intro g6 cap6 W6 ho6 hb6 hk6 hl6; have F6 := Lib.hid (F5.out.want ho6 hb6 hk6 hl6); clear ho6 hb6 hk6 hl6)
        go_roundg (zs.length - (k + 1))
        case measure => have := HN.out; omega
        case rel => exact ⟨k + 1, _, _, by omega, by go_num, by simp [hLk], by simp; omega, rfl, HL6, HW2, by simpa [hLk] using F6⟩
      | false => cases r with
        | true =>
          have HW2 : Hid (M ++ [(k : Int)] = wantL zs z false (k + 1)) := by show _ = _; rw [HWS.out, HM.out]; simp
          go_wp2_with (at_builtin; refine wpList_appendX rfl (.tmp 45) (.tmp 47) 29 rfl w.heap.size 3 i0 (.int .i64 0) 1 8 Try.underlying29 hi hz0 hz1 hz2 rfl (by decide) _ M.length (M.map (Value.int .i64)) rfl F5.out.ow _ _ rfl rfl rfl (one1 rfl) ⟨by omega, by omega⟩ hs5 ?_; intro g6 cap6 W6 ho6 hb6 hk6 hl6; have F6 := Lib.hid (F5.out.want ho6 hb6 hk6 hl6); clear ho6 hb6 hk6 hl6)
          go_roundg (zs.length - (k + 1))
          case measure => have := HN.out; omega
          case rel => exact ⟨k + 1, _, _, by omega, by go_num, by simp [hLk], by simp; omega, rfl, HL6, HW2, by simpa [hLk] using F6⟩
        | false =>
          have HW2 : Hid (M = wantL zs z false (k + 1)) := by show _ = _; rw [HWS.out, HM.out]; simp
          go_wp2
          go_roundg (zs.length - (k + 1))
          case measure => have := HN.out; omega
          case rel => exact ⟨k + 1, _, _, by omega, by go_num, by simp [hLk], by omega, rfl, HL6, HW2, by simpa [hLk] using F5⟩
    · obtain rfl : k = zs.length := by omega
      have FF := Lib.hid HF.out
      have HLk := Lib.hid hLk
      clear hLk HF
      cases op with
      | false =>
        go_upto_region 16 with fail
        obtain ⟨X, hX⟩ : ∃ X, X = (wr.alloc (.cells #[.int .i64 2, .int .i64 z, .string ⟨#[]⟩, .slice none 0 0] 24)).alloc (.cells #[.int .i64 4, .int .i64 0, .string ⟨#[112]⟩, .slice (some ⟨wr.heap.size, 0, none⟩) 1 1] 24) := ⟨_, rfl⟩
        have BX0 : Below wr.heap.size wr X := by rw [hX]; exact ((Below.refl _ _).alloc (Nat.le_refl _) _).alloc (by simp) _
        have PX : Hid (Below w.heap.size w X) := FF.out.bel.trans (BX0.mono hsz)
        have BX : Hid (BoxL X (wr.heap.size + 1) [.int .i64 4, .int .i64 0, .string ⟨#[112]⟩, .slice (some ⟨wr.heap.size, 0, none⟩) 1 1]) := by
          rw [hX]
          have h := BoxL.mk' (wr.alloc (.cells #[.int .i64 2, .int .i64 z, .string ⟨#[]⟩, .slice none 0 0] 24)) #[.int .i64 4, .int .i64 0, .string ⟨#[112]⟩, .slice (some ⟨wr.heap.size, 0, none⟩) 1 1] 24
          simp only [World.size_alloc] at h
          exact h
        have TG : TmAt (fun _ => True) X (goalT z false) (.slice (some ⟨wr.heap.size, 0, none⟩) 1 1) := by
          rw [hX]; exact (factT_at (q := fun _ => True) (z := z) (T := 24) trivial).later ((Below.refl _ _).alloc (Nat.le_refl _) _)
        have TH : TsAt (fun _ => True) X (.slice ha L.length hc) (zs.map factT) := by
          have h := (FF.out.ts.at).later BX0
          rw [HL.out, List.take_length] at h; exact h
        have IW : Hid (IsAt X (.slice wa M.length wc) M) := SlAt.below (SlAt.of_own FF.out.ow) BX0
        have hHl : (zs.map factT).length ≤ 4096 := by rw [List.length_map]; omega
        have hok : ∀ t ∈ zs.map factT, t.ok := fun t ht => by
          obtain ⟨x, hx, rfl⟩ := List.mem_map.1 ht
          exact factT_ok x (HB.out x hx).1 (HB.out x hx).2
        have hgo := goalT_ok z false hz8.1 hz8.2
        have hM : (whichI (zs.map factT) (goalT z false)).map (fun (i : Nat) => (i : Int)) = M := by rw [facts_which]; exact HM.out.symm
        have C1 : Hid (Calls Try.prog 47 #[.slice ha L.length hc, .agg #[.int .i64 4, .int .i64 0, .string ⟨#[112]⟩, .slice (some ⟨wr.heap.size, 0, none⟩) 1 1]] X (RetWhich M X)) := by
          have h := which_c _ _ (goalT z false) _ X TH hHl TG hok hgo rfl Nat.one_pos
          rw [hM] at h; exact h
        have C3 : Hid (∀ W, Below X.heap.size X W → Calls Try.prog 49 #[.slice ha L.length hc, .agg #[.int .i64 4, .int .i64 0, .string ⟨#[112]⟩, .slice (some ⟨wr.heap.size, 0, none⟩) 1 1]] W (RetWhich M W)) := fun W hW => by
          have h := refWhich_c _ _ (goalT z false) _ W (TH.later hW) hHl (TG.later hW) hok hgo rfl Nat.one_pos
          rw [hM] at h; exact h
        have C2 : Hid (∀ a c W, IsAt W (.slice a M.length c) M → Below X.heap.size X W → Calls Try.prog 48 #[.slice a M.length c, .slice wa M.length wc] W fun e w' => e = .returned (.bool true) ∧ Below W.heap.size W w') := fun a c W h1 h2 =>
          (sameInts12_c _ _ M M W h1 (IW.out.below h2) (by omega)).mono fun e w' ⟨h3, h4⟩ => ⟨by simpa using h3, h4⟩
        have C5 : Hid (∀ W, Below X.heap.size X W → Calls Try.prog 53 #[.slice ha L.length hc, .string ⟨#[112]⟩, .int .i64 1] W (RetLen zs.length W)) := fun W hW =>
          (indexNamed_c _ _ pS 1 W (TH.later hW) hHl).mono fun e w' ⟨a, c, h1, h2, h3⟩ => ⟨a, c, by rw [h1, facts_named]; simp, h3⟩
        have C6 : Hid (∀ W, Below X.heap.size X W → Calls Try.prog 53 #[.slice ha L.length hc, .string ⟨#[112]⟩, .int .i64 2] W (RetLen 0 W)) := fun W hW =>
          (indexNamed_c _ _ pS 2 W (TH.later hW) hHl).mono fun e w' ⟨a, c, h1, h2, h3⟩ => ⟨a, c, by rw [h1, facts_named2]; rfl, h3⟩
        have hBX : (wr.heap.size + 1) < X.heap.size := BX.out.lt (by simp)
        obtain ⟨y0, _⟩ := BX.out.get 0 rfl
        obtain ⟨y1, _⟩ := BX.out.get 1 rfl
        obtain ⟨y2, _⟩ := BX.out.get 2 rfl
        obtain ⟨y3, _⟩ := BX.out.get 3 rfl
        rw [← hX]
        clear hX TG TH hok hgo hM hHl BX0
        go_wp2_with (first
          | (go_at_call 47; ((with_reducible refine C1.out.mono ?_); rintro e W1 ⟨ra, rc, rfl, r1, r2⟩; have P1 := Lib.hid r2; have S1 : Hid (IsAt W1 (.slice ra M.length rc) M) := r1; clear r1 r2))
          | (go_at_call 48; ((with_reducible refine (C2.out ra rc _ S1.out P1.out).mono ?_); rintro e W2 ⟨rfl, bb⟩; have P2 := Lib.hid (P1.out.trans (bb.mono P1.out.size)); clear bb; have B2 := BX.out.below P2.out hBX; have q0 := (B2.get 0 rfl).1; have q1 := (B2.get 1 rfl).1; have q2 := (B2.get 2 rfl).1; have q3 := (B2.get 3 rfl).1; clear B2))
          | (go_at_call 49; ((with_reducible refine (C3.out _ P2.out).mono ?_); rintro e W3 ⟨rb, rd, rfl, r1, r2⟩; have P3 := Lib.hid (P2.out.trans (r2.mono P2.out.size)); have S3 : Hid (IsAt W3 (.slice rb M.length rd) M) := r1; clear r1 r2))
          | (go_at_call 48; ((with_reducible refine (C2.out rb rd _ S3.out P3.out).mono ?_); rintro e W4 ⟨rfl, bb⟩; have P4 := Lib.hid (P3.out.trans (bb.mono P3.out.size)); clear bb))
          | (go_at_call 53; ((with_reducible refine (C5.out _ P4.out).mono ?_); rintro e W5 ⟨a5, c5, rfl, bb⟩; have P5 := Lib.hid (P4.out.trans (bb.mono P4.out.size)); clear bb))
          | (go_at_call 53; ((with_reducible refine (C6.out _ P5.out).mono ?_); rintro e W6 ⟨a6, c6, rfl, bb⟩; have P6 := Lib.hid (P5.out.trans (bb.mono P5.out.size)); clear bb)))
        go_ret
        exact ⟨rfl, PX.out.trans (P6.out.mono PX.out.size)⟩
      | true =>
        go_upto_region 16 with fail
        obtain ⟨X, hX⟩ : ∃ X, X = ((wr.alloc (.cells #[.int .i64 2, .int .i64 z, .string ⟨#[]⟩, .slice none 0 0] 24)).alloc (.cells #[.int .i64 1, .int .i64 3, .string ⟨#[]⟩, .slice none 0 0] 24)).alloc (.cells #[.int .i64 4, .int .i64 0, .string ⟨#[112]⟩, .slice (some ⟨wr.heap.size + 1, 0, none⟩) 1 1] 24) := ⟨_, rfl⟩
        have BX0 : Below wr.heap.size wr X := by rw [hX]; exact (((Below.refl _ _).alloc (Nat.le_refl _) _).alloc (by simp) _).alloc (by simp; omega) _
        have PX : Hid (Below w.heap.size w X) := FF.out.bel.trans (BX0.mono hsz)
        have BX : Hid (BoxL X (wr.heap.size + 1 + 1) [.int .i64 4, .int .i64 0, .string ⟨#[112]⟩, .slice (some ⟨wr.heap.size + 1, 0, none⟩) 1 1]) := by
          rw [hX]
          have h := BoxL.mk' ((wr.alloc (.cells #[.int .i64 2, .int .i64 z, .string ⟨#[]⟩, .slice none 0 0] 24)).alloc (.cells #[.int .i64 1, .int .i64 3, .string ⟨#[]⟩, .slice none 0 0] 24)) #[.int .i64 4, .int .i64 0, .string ⟨#[112]⟩, .slice (some ⟨wr.heap.size + 1, 0, none⟩) 1 1] 24
          simp only [World.size_alloc] at h
          exact h
        have TG : TmAt (fun _ => True) X (goalT z true) (.slice (some ⟨wr.heap.size + 1, 0, none⟩) 1 1) := by
          have h := varT_at (w := wr.alloc (.cells #[.int .i64 2, .int .i64 z, .string ⟨#[]⟩, .slice none 0 0] 24)) (z := z) (T := 24)
          simp only [World.size_alloc] at h
          rw [hX]; exact h.later ((Below.refl _ _).alloc (Nat.le_refl _) _)
        have TH : TsAt (fun _ => True) X (.slice ha L.length hc) (zs.map factT) := by
          have h := (FF.out.ts.at).later BX0
          rw [HL.out, List.take_length] at h; exact h
        have IW : Hid (IsAt X (.slice wa M.length wc) M) := SlAt.below (SlAt.of_own FF.out.ow) BX0
        have hHl : (zs.map factT).length ≤ 4096 := by rw [List.length_map]; omega
        have hok : ∀ t ∈ zs.map factT, t.ok := fun t ht => by
          obtain ⟨x, hx, rfl⟩ := List.mem_map.1 ht
          exact factT_ok x (HB.out x hx).1 (HB.out x hx).2
        have hgo := goalT_ok z true hz8.1 hz8.2
        have hM : (whichI (zs.map factT) (goalT z true)).map (fun (i : Nat) => (i : Int)) = M := by rw [facts_which]; exact HM.out.symm
        have C1 : Hid (Calls Try.prog 47 #[.slice ha L.length hc, .agg #[.int .i64 4, .int .i64 0, .string ⟨#[112]⟩, .slice (some ⟨wr.heap.size + 1, 0, none⟩) 1 1]] X (RetWhich M X)) := by
          have h := which_c _ _ (goalT z true) _ X TH hHl TG hok hgo rfl Nat.one_pos
          rw [hM] at h; exact h
        have C3 : Hid (∀ W, Below X.heap.size X W → Calls Try.prog 49 #[.slice ha L.length hc, .agg #[.int .i64 4, .int .i64 0, .string ⟨#[112]⟩, .slice (some ⟨wr.heap.size + 1, 0, none⟩) 1 1]] W (RetWhich M W)) := fun W hW => by
          have h := refWhich_c _ _ (goalT z true) _ W (TH.later hW) hHl (TG.later hW) hok hgo rfl Nat.one_pos
          rw [hM] at h; exact h
        have C2 : Hid (∀ a c W, IsAt W (.slice a M.length c) M → Below X.heap.size X W → Calls Try.prog 48 #[.slice a M.length c, .slice wa M.length wc] W fun e w' => e = .returned (.bool true) ∧ Below W.heap.size W w') := fun a c W h1 h2 =>
          (sameInts12_c _ _ M M W h1 (IW.out.below h2) (by omega)).mono fun e w' ⟨h3, h4⟩ => ⟨by simpa using h3, h4⟩
        have C5 : Hid (∀ W, Below X.heap.size X W → Calls Try.prog 53 #[.slice ha L.length hc, .string ⟨#[112]⟩, .int .i64 1] W (RetLen zs.length W)) := fun W hW =>
          (indexNamed_c _ _ pS 1 W (TH.later hW) hHl).mono fun e w' ⟨a, c, h1, h2, h3⟩ => ⟨a, c, by rw [h1, facts_named]; simp, h3⟩
        have C6 : Hid (∀ W, Below X.heap.size X W → Calls Try.prog 53 #[.slice ha L.length hc, .string ⟨#[112]⟩, .int .i64 2] W (RetLen 0 W)) := fun W hW =>
          (indexNamed_c _ _ pS 2 W (TH.later hW) hHl).mono fun e w' ⟨a, c, h1, h2, h3⟩ => ⟨a, c, by rw [h1, facts_named2]; rfl, h3⟩
        have hBX : (wr.heap.size + 1 + 1) < X.heap.size := BX.out.lt (by simp)
        obtain ⟨y0, _⟩ := BX.out.get 0 rfl
        obtain ⟨y1, _⟩ := BX.out.get 1 rfl
        obtain ⟨y2, _⟩ := BX.out.get 2 rfl
        obtain ⟨y3, _⟩ := BX.out.get 3 rfl
        rw [← hX]
        clear hX TG TH hok hgo hM hHl BX0
        go_wp2_with (first
          | (go_at_call 47; ((with_reducible refine C1.out.mono ?_); rintro e W1 ⟨ra, rc, rfl, r1, r2⟩; have P1 := Lib.hid r2; have S1 : Hid (IsAt W1 (.slice ra M.length rc) M) := r1; clear r1 r2))
          | (go_at_call 48; ((with_reducible refine (C2.out ra rc _ S1.out P1.out).mono ?_); rintro e W2 ⟨rfl, bb⟩; have P2 := Lib.hid (P1.out.trans (bb.mono P1.out.size)); clear bb; have B2 := BX.out.below P2.out hBX; have q0 := (B2.get 0 rfl).1; have q1 := (B2.get 1 rfl).1; have q2 := (B2.get 2 rfl).1; have q3 := (B2.get 3 rfl).1; clear B2))
          | (go_at_call 49; ((with_reducible refine (C3.out _ P2.out).mono ?_); rintro e W3 ⟨rb, rd, rfl, r1, r2⟩; have P3 := Lib.hid (P2.out.trans (r2.mono P2.out.size)); have S3 : Hid (IsAt W3 (.slice rb M.length rd) M) := r1; clear r1 r2))
          | (go_at_call 48; ((with_reducible refine (C2.out rb rd _ S3.out P3.out).mono ?_); rintro e W4 ⟨rfl, bb⟩; have P4 := Lib.hid (P3.out.trans (bb.mono P3.out.size)); clear bb))
          | (go_at_call 53; ((with_reducible refine (C5.out _ P4.out).mono ?_); rintro e W5 ⟨a5, c5, rfl, bb⟩; have P5 := Lib.hid (P4.out.trans (bb.mono P4.out.size)); clear bb))
          | (go_at_call 53; ((with_reducible refine (C6.out _ P5.out).mono ?_); rintro e W6 ⟨a6, c6, rfl, bb⟩; have P6 := Lib.hid (P5.out.trans (bb.mono P5.out.size)); clear bb)))
        go_ret
        exact ⟨rfl, PX.out.trans (P6.out.mono PX.out.size)⟩
end Go.Proofs.Ytmffobadnmkpbaa
namespace Go.Proofs.Ytmffobadnmkpbaa
open Go.RowKit Go.ChangeShapes Go.WideShapes Go.ChangeAt

set_option maxRecDepth 100000 in
theorem cellsI16 : Try.prog.cellsOf 58 = 1 := by kernel_rfl
set_option maxRecDepth 100000 in
theorem open_i8s {H : Type} {enc : TypeId × Value → H} {w : World} {sp : Nat → Bool} {held : Bool} {base : Nat} {v : Value} {d : DataW H} {ps : List MemPlace}
    (hval : Value.okWide Try.prog w .any base 57 v) (h0 : DataW.Trod enc Try.prog w 0 sp held 57 v d ps) : ∃ zs : List Int, SlAt w 1 v zs.length (zs.map (Value.int .i8)) ∧ ∀ z ∈ zs, -128 ≤ z ∧ z ≤ 127 := by
  obtain ⟨a0, l0, c0, rfl⟩ := okWide_slice Try.underlying57 hval
  obtain ⟨fuel, h⟩ := Joins.field_of_Trod h0 rfl
  obtain ⟨n, xs, hS, hE⟩ := open_sl (k := 1) Try.underlying57 cellsI16 h
  have hx : ∀ i, i < n → ∃ z : Int, xs[i]? = some (.int .i8 z) ∧ (Lit.int .i8 z).wf = true := fun i hi => by
    obtain ⟨m, y, hy⟩ := hE i hi
    obtain ⟨z, hz, _, hwf⟩ := DataW.trod_int Try.underlying58 hy
    refine ⟨z, ?_, hwf⟩
    have := congrArg (·[0]?) hz
    simpa [List.getElem?_take, List.getElem?_drop] using this
  obtain ⟨f, hf⟩ := Deep.choose_lt hx
  have hl := hS.len
  have e : xs = ((List.range n).map f).map (Value.int .i8) := by
    apply List.ext_getElem?
    intro i
    by_cases hi : i < n
    · rw [(hf i hi).1]; simp [hi]
    · rw [List.getElem?_eq_none (by omega), List.getElem?_eq_none (by simp; omega)]
  refine ⟨(List.range n).map f, ?_, fun z hz => ?_⟩
  · rw [← e]
    simpa using hS
  · obtain ⟨i, hi, rfl⟩ := List.mem_map.1 hz
    have := (hf i (by simpa using hi)).2
    simpa [Lit.wf, IntKind.min, IntKind.max, IntKind.bits, IntKind.signed] using this
end Go.Proofs.Ytmffobadnmkpbaa
