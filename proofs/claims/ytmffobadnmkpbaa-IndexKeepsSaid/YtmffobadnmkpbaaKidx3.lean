/-
  index.Which at a goal without arguments, walked (printed by genid12.py out of Id6's text).
  index.Named, walked.
  coneyref12.Named and coneyref12.Which, walked.
-/
import Derived.Test.YtmffobadnmkpbaaKidx2
namespace Go.Proofs.Ytmffobadnmkpbaa
open Go.RowKit

attribute [local go_sem] Oper.semAt_some
set_option maxRecDepth 1000000 in
set_option maxHeartbeats 6400000 in
theorem whichZ_c (vh : Value) (H : List Tm) (g : Tm) (ga : Value) (w : World) (hh : TsAt (fun _ => True) w vh H) (hl : H.length ≤ 4096) (hg : TmAt (fun _ => True) w g ga) (hgn : g.named = true) (hgl : g.args.length = 0) :
    Calls Try.prog 47 #[vh, tmV g ga] w (RetWhich ((whichI H g).map (fun (i : Nat) => (i : Int))) w) := by
  obtain ⟨ao, cap, rfl, _⟩ := hh.shape
  obtain ⟨p0, q0, rfl, _⟩ := hg.shape
  obtain ⟨W0, hW0⟩ : ∃ W0, W0 = (w.alloc (.cells #[.int .i64 g.kind, .int .i64 g.num, .string g.name, .slice p0 g.args.length q0] 24)).alloc (.cells #[.slice none 0 0] 29) := ⟨_, rfl⟩
  have B0 : Hid (Below w.heap.size w W0) := by rw [hW0]; exact ((Below.refl _ _).alloc (Nat.le_refl _) _).alloc (by simp) _
  have X0 : Hid (BoxL W0 w.heap.size [.int .i64 g.kind, .int .i64 g.num, .string g.name, .slice p0 g.args.length q0]) := by
    rw [hW0]; exact (BoxL.mk' w #[.int .i64 g.kind, .int .i64 g.num, .string g.name, .slice p0 g.args.length q0] 24).below ((Below.refl (w.heap.size + 1) _).alloc (by simp) _) (by omega)
  have Y0 : Hid (BoxL W0 (w.heap.size + 1) [.slice none 0 0]) := by
    have h := BoxL.mk' (w.alloc (.cells #[.int .i64 g.kind, .int .i64 g.num, .string g.name, .slice p0 g.args.length q0] 24)) #[.slice none 0 0] 29
    simp only [World.size_alloc] at h
    rw [hW0]; exact h
  have hs0 : Hid (W0.heap.size = w.heap.size + 2) := by show _ = _; rw [hW0]; simp
  have CNm : Hid (Calls Try.prog 38 #[.agg #[.int .i64 g.kind, .int .i64 g.num, .string g.name, .slice p0 g.args.length q0]] W0 fun e w' => e = .returned (.tuple #[.string g.name, .int .i64 g.args.length, .bool true]) ∧ Below W0.heap.size W0 w') := by
    have h := normName_c g p0 q0 W0
    rw [hgn] at h; exact h
  obtain ⟨x0, _⟩ := X0.out.get 0 rfl
  obtain ⟨x1, _⟩ := X0.out.get 1 rfl
  obtain ⟨x2, _⟩ := X0.out.get 2 rfl
  obtain ⟨x3, _⟩ := X0.out.get 3 rfl
  have HH := Lib.hid hh
  have HG := Lib.hid hg
  have HWE := Lib.hid hW0
  unfold tmV
  have HGL := Lib.hid hgl
  clear hh hg hgn hW0 hgl
  refine (callsIn_wide (n := 3)).1 (callsIn_of_wp_marks Try.func47 rfl trivial ?_ rfl)
  refine wpIn_wide.2 ?_
  simp only [Try.ntmps47, List.size_toArray, List.length_cons, List.length_nil, Nat.reduceAdd, Nat.reduceSub, Array.replicate_succ, Array.replicate_zero, List.push_toArray, List.append_toArray, List.nil_append, List.cons_append]
  go_upto_region 2 with fail
  rw [← HWE.out]
  go_upto_region 3 with (go_at_call 38; (with_reducible refine CNm.out.mono ?_); rintro e W1 ⟨rfl, b1⟩; have B1 := Lib.hid b1; clear b1)
  refine id_genW fun W2 hW2 => ?_
  have B2 : Hid (Below W1.heap.size W1 W2) := by rw [hW2]; exact (Below.refl _ _).alloc (Nat.le_refl _) _
  have Z2 : Hid (BoxL W2 W1.heap.size [.int .i64 g.args.length]) := by rw [hW2]; exact BoxL.mk' W1 #[.int .i64 g.args.length] 3
  have hs2 : Hid (W2.heap.size = W1.heap.size + 1) := by show _ = _; rw [hW2]; simp
  have hb01 := B1.out.size
  have hs00 := hs0.out
  have B02 : Hid (Below W0.heap.size W0 W2) := B1.out.trans (B2.out.mono B1.out.size)
  have X2 := Lib.hid (X0.out.below B02.out (by omega))
  have Y2 := Lib.hid (Y0.out.below B02.out (by omega))
  have BW2 : Hid (Below w.heap.size w W2) := B0.out.trans (B02.out.mono B0.out.size)
  clear hW2 x0 x1 x2 x3 CNm
  obtain ⟨NB, hNB⟩ : ∃ NB, NB = W1.heap.size := ⟨_, rfl⟩
  have hNB2 : w.heap.size + 2 ≤ NB := by rw [hNB]; omega
  rw [← hNB] at Z2 hs2
  rw [← hNB]
  have HNB := Lib.hid hNB2
  have z0 := (Z2.out.get 0 rfl).1
  have CNd : Hid (Calls Try.prog 86 #[.slice ao H.length cap, .string g.name, .int .i64 g.args.length] W2 fun e w' => e = .returned (.func (.func 114) #[] #[.pointer (some ⟨W2.heap.size, 0, none⟩), .pointer (some ⟨W2.heap.size + 1, 0, none⟩), .pointer (some ⟨W2.heap.size + 1 + 1, 0, none⟩)]) ∧
      (w'.cell? ⟨W2.heap.size, 0, none⟩ = some (.slice ao H.length cap) ∧ w'.cell? ⟨W2.heap.size + 1, 0, none⟩ = some (.string g.name) ∧ w'.cell? ⟨W2.heap.size + 1 + 1, 0, none⟩ = some (.int .i64 g.args.length)) ∧ Below W2.heap.size W2 w' ∧ w'.heap.size = W2.heap.size + 3) := idxNamed_c _ _ _ _ _ W2
  obtain ⟨HS, hHS⟩ : ∃ HS, HS = W2.heap.size := ⟨_, rfl⟩
  rw [← hHS] at CNd
  have HHS : Hid (HS = NB + 1) := by show _ = _; rw [hHS]; exact hs2.out
  have HH2 := Lib.hid hHS
  clear hNB hNB2 hHS hb01 hs00
  go_wp2_with (go_at_call 86; (with_reducible refine CNd.out.mono ?_); rintro e W3 ⟨rfl, ⟨c0, c1, c2⟩, b3, s3⟩; have C3 := Lib.hid c0; have C4 := Lib.hid c1; have C5 := Lib.hid c2; have B3 := Lib.hid b3; have S3 := Lib.hid s3; clear c0 c1 c2 b3 s3)
  refine (wpIn_wide (n := 3)).1 ?_
  have hs3 : W3.heap.size = HS + 3 := S3.out
  have B3' : Hid (Below W2.heap.size W2 W3) := by rw [← HH2.out]; exact B3.out
  have hhs := HHS.out
  have hnb := HNB.out
  have hs2w : W2.heap.size = NB + 1 := by rw [← HH2.out]; exact hhs
  have BIN : Hid (Below w.heap.size w W3) := BW2.out.trans (B3'.out.mono BW2.out.size)
  have X3 := Lib.hid (X2.out.below B3'.out (by omega))
  have Y3 := Lib.hid (Y2.out.below B3'.out (by omega))
  have Z3 := Lib.hid (Z2.out.below B3'.out (by omega))
  have I0 : Hid (OutI w.heap.size (w.heap.size + 1) w.heap.size NB g (.slice p0 g.args.length q0) W3 [] (fun b => b = w.heap.size + 1 ∨ b = w.heap.size ∨ b = NB)) :=
    ⟨⟨_, (Y3.out.get 0 rfl).1, (Y3.out.get 0 rfl).2, World.ownsRow_nil _ _ _ _, fun b e => (by cases e)⟩, ⟨(X3.out.get 0 rfl).1, (X3.out.get 1 rfl).1, (X3.out.get 2 rfl).1, (X3.out.get 3 rfl).1⟩, (Z3.out.get 0 rfl).1, .inl rfl, .inr (.inl rfl), .inr (.inr rfl), by omega, by omega, fun b hb => by rcases hb with rfl | rfl | rfl <;> omega, fun b hb => by rcases hb with rfl | rfl | rfl <;> omega⟩
  have HSEQ : Hid (∀ W', Below W3.heap.size W3 W' → W'.heap.size = W3.heap.size + 2 → SeqL Fence.wide 2 Try.prog 114 #[.pointer (some ⟨HS, 0, none⟩), .pointer (some ⟨HS + 1, 0, none⟩), .pointer (some ⟨HS + 1 + 1, 0, none⟩)] encH (GotH w H g.name g.args.length) ownH w.heap.size (DoneH H g.name g.args.length) StopH (fun b => (b = w.heap.size + 1 ∨ b = w.heap.size ∨ b = NB) ∨ b = W3.heap.size ∨ b = W3.heap.size + 1) W') := fun W' hb hs =>
    named_seq w W' HS (HS + 1) (HS + 1 + 1) (.slice ao H.length cap) H g.name g.args.length _ ⟨HH.out, hl, BIN.out.trans (hb.mono BIN.out.size), (hb.cell (p := ⟨HS, 0, none⟩) (by dsimp only; omega)).trans C3.out, (hb.cell (p := ⟨HS + 1, 0, none⟩) (by dsimp only; omega)).trans C4.out, (hb.cell (p := ⟨HS + 1 + 1, 0, none⟩) (by dsimp only; omega)).trans C5.out, (by omega), (by omega), (by omega), (fun b e => by omega)⟩ 2
  clear hhs hs3 hs2w B3 S3 C3 C4 C5 X2 Y2 Z2 X3 Y3 Z3 X0 Y0 B02 B2 B1 z0 CNd
  refine wpIn_rangeFunc_L rfl (by decide) (gf := 114) (lb := #[.pointer (some ⟨HS, 0, none⟩), .pointer (some ⟨HS + 1, 0, none⟩), .pointer (some ⟨HS + 1 + 1, 0, none⟩)]) rfl trivial (enters_of Try.func114 (by kernel_rfl) rfl)
    (encs := encH) (Got := GotH w H g.name g.args.length) (own := ownH) (n0 := w.heap.size) (M0 := fun b => b = w.heap.size + 1 ∨ b = w.heap.size ∨ b = NB) HSEQ.out BIN.out.size (fun _ => rfl)
    (fun pre x W W' h _ _ => h) (fun xs W o' h => h) (fun xs W o' h => h)
    (fun pre M W => OutI w.heap.size (w.heap.size + 1) w.heap.size NB g (.slice p0 g.args.length q0) W pre M ∧ ∀ x ∈ pre, H[x.1]? = some x.2.1) (fun _ _ _ _ => False)
    (fun pre M W W' h hs hb => ⟨h.1.rest hs hb, h.2⟩) (fun c pre M W W' h hs hb => h) (fun pre M W h => h.1.lt) (fun c pre M W h => h.elim) ⟨I0.out, fun x hx => (by cases hx)⟩
    (fun x W => { tmps := #[.slice ao H.length cap, .agg #[.int .i64 g.kind, .int .i64 g.num, .string g.name, .slice p0 g.args.length q0], undef, .pointer (some ⟨w.heap.size, 0, none⟩), .slice none 0 0, .pointer (some ⟨w.heap.size + 1, 0, none⟩), .string g.name, .pointer (some ⟨NB, 0, none⟩), .bool true, .int .i64 (x.1 : Nat), .pointer (some ⟨W.heap.size, 0, none⟩), .tuple #[.string g.name, .int .i64 g.args.length, .bool true], .agg #[.int .i64 g.kind, .int .i64 g.num, .string g.name, .slice p0 g.args.length q0], .tuple #[.string g.name, .int .i64 g.args.length, .bool true], .string g.name, .int .i64 g.args.length, .bool true, .bool true, .bool false, .slice ao H.length cap, .string g.name, .int .i64 g.args.length, .func (.func 114) #[] #[.pointer (some ⟨HS, 0, none⟩), .pointer (some ⟨HS + 1, 0, none⟩), .pointer (some ⟨HS + 1 + 1, 0, none⟩)], .int .i64 (x.1 : Nat), .agg #[.int .i64 x.2.1.kind, .int .i64 x.2.1.num, .string x.2.1.name, .slice x.2.2.1 x.2.1.args.length x.2.2.2], undef, undef, undef, undef, undef, undef, undef, undef, undef, undef, undef, undef, undef, undef, undef, undef, undef, undef], defers := [] })
    (fun x W => W.alloc (.cells #[.int .i64 x.2.1.kind, .int .i64 x.2.1.num, .string x.2.1.name, .slice x.2.2.1 x.2.1.args.length x.2.2.2] 24)) (fun x W => (Below.refl _ _).alloc (Nat.le_refl _) _)
    (fun x Wy W => BoxL W Wy.heap.size [.int .i64 x.2.1.kind, .int .i64 x.2.1.num, .string x.2.1.name, .slice x.2.2.1 x.2.1.args.length x.2.2.2])
    (fun x W o hlt => (BoxL.mk' W #[.int .i64 x.2.1.kind, .int .i64 x.2.1.num, .string x.2.1.name, .slice x.2.2.1 x.2.1.args.length x.2.2.2] 24).block (World.putObj_heap_other (by omega))) ?assign ?body ?done ?stop
  case assign =>
    intro l x W K hK
    dsimp only [encH]
    gi_wp2
    exact hK
  case body =>
    rintro l pre M ⟨i, t, pt, q1⟩ Wy W hLd ⟨hO, hpre⟩ ⟨hxp, hxi, hxh, hxt⟩ hown hsz hB
    dsimp only at hLd hxi hxh hxt hxp
    have hiH : i < H.length := (List.getElem?_eq_some_iff.1 hxi).1
    have hpl : pre.length ≤ 4096 := by have h1 := congrArg List.length hxp; rw [List.length_map] at h1; have h2 := namedTo_len H g.name g.args.length i; omega
    have hol : (outL g pre).length ≤ 4096 := by unfold outL; rw [List.length_map]; exact Nat.le_trans (List.length_filter_le _ _) hpl
    have hBW : Below w.heap.size w W := BIN.out.trans hB
    have hkeep : keepOf g (i, t, pt, q1) = true := by unfold keepOf; simp [HGL.out]
    have HKP := Lib.hid hkeep
    have hS : Hid (∀ X, Below W.heap.size W X → X.cell? ⟨NB, 0, none⟩ = some (.int .i64 g.args.length)) := fun X hX => (hO.rest hX.size (fun b hb => hX.block b (hO.lt b hb))).nc
    clear hkeep
    have HO := Lib.hid hO
    have HPRE := Lib.hid hpre
    have HXI := Lib.hid hxi
    have HBW := Lib.hid hBW
    have HBB := Lib.hid hB
    have hgi : ¬ ((0 : Int) < g.args.length) := by have := HGL.out; omega
    clear hO hpre hxi hxh hxt hxp hown hBW hB hLd hpl
    dsimp only
    gi_wp2
    refine wpIn_region_roundK (by kernel_rfl) (noDefer_of (by kernel_rfl)) (S := fun W => W.cell? ⟨NB, 0, none⟩ = some (.int .i64 g.args.length)) ?hS (fun hHeld => ?_)
    case hS => exact hS.out _ (Below.refl _ _).drew
    refine wpAnyH_takeD (i := 0) (d := some 25) (v := .int .i64 g.args.length) rfl rfl (by kernel_rfl) (by kernel_rfl) (by kernel_rfl) (fun _ _ _ h => h) (Or.inl ⟨by rfl, ?_⟩) hHeld ?_
    · intro w hSw; go_simp
    simp only [Act.put, List.setIfInBounds_toArray, List.set_cons_zero, List.set_cons_succ]
    refine wpAnyH_takeD (i := 1) (d := some 26) (v := .bool false) rfl rfl (by kernel_rfl) (by kernel_rfl) (by kernel_rfl) (fun _ _ _ h => h) (Or.inl ⟨by rfl, ?_⟩) hHeld ?_
    · intro w hSw; go_simp; exact List.eq_nil_of_length_eq_zero HGL.out
    simp only [Act.put, List.setIfInBounds_toArray, List.set_cons_zero, List.set_cons_succ]
    refine wpAnyH_takeD (i := 2) (d := some 27) (v := .bool false) rfl rfl (by kernel_rfl) (by kernel_rfl) (by kernel_rfl) (fun _ _ _ h => h) (Or.inl ⟨by rfl, ?_⟩) hHeld ?_
    · intro w hSw; go_simp
    simp only [Act.put, List.setIfInBounds_toArray, List.set_cons_zero, List.set_cons_succ]
    refine wpAnyH_takeD (i := 3) (d := some 28) (v := undef) rfl rfl (by kernel_rfl) (by kernel_rfl) (by kernel_rfl) (fun _ _ _ h => h) (Or.inr ⟨by rfl, rfl⟩) hHeld ?_
    simp only [Act.put, List.setIfInBounds_toArray, List.set_cons_zero, List.set_cons_succ]
    refine wpAnyH_takeD (i := 4) (d := some 29) (v := undef) rfl rfl (by kernel_rfl) (by kernel_rfl) (by kernel_rfl) (fun _ _ _ h => h) (Or.inr ⟨by rfl, rfl⟩) hHeld ?_
    simp only [Act.put, List.setIfInBounds_toArray, List.set_cons_zero, List.set_cons_succ]
    refine wpAnyH_takeD (i := 5) (d := some 30) (v := undef) rfl rfl (by kernel_rfl) (by kernel_rfl) (by kernel_rfl) (fun _ _ _ h => h) (Or.inr ⟨by rfl, rfl⟩) hHeld ?_
    simp only [Act.put, List.setIfInBounds_toArray, List.set_cons_zero, List.set_cons_succ]
    refine wpAnyH_takeD (i := 6) (d := some 31) (v := undef) rfl rfl (by kernel_rfl) (by kernel_rfl) (by kernel_rfl) (fun _ _ _ h => h) (Or.inr ⟨by rfl, rfl⟩) hHeld ?_
    simp only [Act.put, List.setIfInBounds_toArray, List.set_cons_zero, List.set_cons_succ]
    refine wpAnyH_takeD (i := 7) (d := some 32) (v := undef) rfl rfl (by kernel_rfl) (by kernel_rfl) (by kernel_rfl) (fun _ _ _ h => h) (Or.inr ⟨by rfl, rfl⟩) hHeld ?_
    simp only [Act.put, List.setIfInBounds_toArray, List.set_cons_zero, List.set_cons_succ]
    refine wpAnyH_takeD (i := 8) (d := some 33) (v := undef) rfl rfl (by kernel_rfl) (by kernel_rfl) (by kernel_rfl) (fun _ _ _ h => h) (Or.inr ⟨by rfl, rfl⟩) hHeld ?_
    simp only [Act.put, List.setIfInBounds_toArray, List.set_cons_zero, List.set_cons_succ]
    refine wpAnyH_takeD (i := 9) (d := some 34) (v := undef) rfl rfl (by kernel_rfl) (by kernel_rfl) (by kernel_rfl) (fun _ _ _ h => h) (Or.inr ⟨by rfl, rfl⟩) hHeld ?_
    simp only [Act.put, List.setIfInBounds_toArray, List.set_cons_zero, List.set_cons_succ]
    refine wpAnyH_takeD (i := 10) (d := some 35) (v := undef) rfl rfl (by kernel_rfl) (by kernel_rfl) (by kernel_rfl) (fun _ _ _ h => h) (Or.inr ⟨by rfl, rfl⟩) hHeld ?_
    simp only [Act.put, List.setIfInBounds_toArray, List.set_cons_zero, List.set_cons_succ]
    refine wpAnyH_takeD (i := 11) (d := some 36) (v := undef) rfl rfl (by kernel_rfl) (by kernel_rfl) (by kernel_rfl) (fun _ _ _ h => h) (Or.inr ⟨by rfl, rfl⟩) hHeld ?_
    simp only [Act.put, List.setIfInBounds_toArray, List.set_cons_zero, List.set_cons_succ]
    refine wpAnyH_takeD (i := 12) (d := some 37) (v := .bool false) rfl rfl (by kernel_rfl) (by kernel_rfl) (by kernel_rfl) (fun _ _ _ h => h) (Or.inl ⟨by rfl, ?_⟩) hHeld ?_
    · intro w hSw; go_simp
    simp only [Act.put, List.setIfInBounds_toArray, List.set_cons_zero, List.set_cons_succ]
    refine wpAnyH_done (by kernel_rfl) ?_ _
    obtain ⟨W8, hW8⟩ : ∃ W8, W8 = W.drew := ⟨_, rfl⟩
    have B8 : Hid (Below W.heap.size W W8) := by rw [hW8]; exact (Below.refl _ _).drew
    rw [← hW8]
    clear hW8 hHeld hS
    have HO8 : Hid (OutI w.heap.size (w.heap.size + 1) w.heap.size NB g (.slice p0 g.args.length q0) W8 pre M) := HO.out.rest B8.out.size (fun b hb => B8.out.block b (HO.out.lt b hb))
    have HP8 : Hid (∀ y ∈ pre ++ [(i, t, pt, q1)], H[y.1]? = some y.2.1) := fun y hy => by
      rcases List.mem_append.1 hy with hy | hy
      · exact HPRE.out y hy
      · obtain rfl := List.mem_singleton.1 hy; exact HXI.out
    obtain ⟨vo, hc, hf, hrow, hvm⟩ := HO8.out.row
    obtain ⟨av, cvv, rfl, _⟩ := (SlAt.of_own hrow).shape
    obtain ⟨t0, ht, hz0', hz1', hz2'⟩ := info_parts Try.infoInt
    have hob := HO8.out.lt _ HO8.out.mo
    have hvob : (Value.slice av (outL g pre).length cvv).ownBlock ≠ some (w.heap.size + 1) := fun e => by have := (hrow.lt _ e).1; omega
    have HC := Lib.hid hc
    clear hvm
    gi_wp2_with (gi_at_builtin; refine wpListIn_append_own_at _ rfl (.tmp 38) (.tmp 40) 29 rfl (w.heap.size + 1 + 1) 3 t0 (.int .i64 0) 1 8 Try.underlying29 ht hz0' hz1' hz2' rfl (by decide) (.slice av (outL g pre).length cvv) (outL g pre).length ((outL g pre).map (Value.int .i64)) rfl (hrow.alloc _) ⟨W8.heap.size, 0, none⟩ 1 1 [.int .i64 i] rfl rfl (cell_one_new _ _ _) (one1 rfl) (by unfold maxLen; omega) (by omega) (by simp; omega) ?_; intro v' w1 r1 r2 r3 r4; obtain ⟨g7, cap7, rfl, _, _⟩ := r1.form (Nat.succ_pos _); have hw1 : (∀ b, b < W8.heap.size → (Value.slice av (outL g pre).length cvv).ownBlock ≠ some b → w1.heap[b]? = W8.heap[b]?) := (fun b hb hne => (r2.block b (by simp; omega) (fun e => hne e.symm)).trans (Below.heap_alloc W8 _ b hb)); have k1 := (World.cell?_of_block (a := ⟨w.heap.size + 1, 0, none⟩) (hw1 _ hob hvob)).trans hc; have k1f := (World.frozen?_of_block (a := ⟨w.heap.size + 1, 0, none⟩) (hw1 _ hob hvob)).trans hf; have k2 : (∀ u, (w1.setCell ⟨w.heap.size + 1, 0, none⟩ u).cell? ⟨w.heap.size + 1, 0, none⟩ = some u) := (fun u => World.cell?_setCell_same _ _ _ k1))
    obtain ⟨M', p1, p2, p3⟩ := OutI.push HO8.out HC.out HKP.out r1 r2 r4
    exact ⟨M', fun b hb => (p1 b hb).elim (fun h => .inl (.inl h)) (fun h => .inr (Nat.le_trans B8.out.size h)), (Agr.of_below B8.out).trans p2 (fun b _ h => h) (fun b _ h => .inl h), p3, HP8.out⟩
  case done =>
    rintro D xs M W hd ⟨hO, hpre⟩ hK hDl hDm hB
    have hbo : Below w.heap.size w (W.putObj D (.deferred none)) := (BIN.out.trans hB).grown (grownBy_putObj' _ _ _) (by have := (BIN.out.trans hB).size; omega) (fun k e => by cases e; have := BIN.out.size; omega)
    have hO2 : OutI w.heap.size (w.heap.size + 1) w.heap.size NB g (.slice p0 g.args.length q0) (W.putObj D (.deferred none)) xs M := hO.rest (by simp) (fun b hm => World.putObj_heap_other (fun e => hDm (by rw [← e]; exact hm)))
    obtain ⟨vo, hco, _, hro, _⟩ := hO2.row
    obtain ⟨ao', cap', rfl, _⟩ := (SlAt.of_own hro).shape
    have hx : W.cell? ⟨w.heap.size + 1, 0, none⟩ = some (.slice ao' (outL g xs).length cap') := (World.cell?_of_block (a := ⟨w.heap.size + 1, 0, none⟩) (World.putObj_heap_other (w := W) (o := .deferred none) (fun e => hDm (by rw [← e]; exact hO.mo)))).symm.trans hco
    have HE : Hid (outL g xs = (whichI H g).map (fun (i : Nat) => (i : Int))) := outL_which hd hpre
    have HLS := Lib.hid (SlAt.of_own hro)
    have HBO := Lib.hid hbo
    clear hO hO2 hro hbo hB hpre hd
    go_wp2
    refine ⟨by simp, .inl ⟨_, _, rfl, run_takeDeferred hK, ?_⟩⟩
    refine ⟨_, by simp [results, Try.results47, go_sem]; rfl, ?_⟩
    rw [← HE.out]
    exact ⟨_, _, rfl, HLS.out, HBO.out⟩
  case stop =>
    rintro D c pre M W _ hO
    exact hO.elim
end Go.Proofs.Ytmffobadnmkpbaa
namespace Go.Proofs.Ytmffobadnmkpbaa
open Go.RowKit

def outN (pre : List (Nat × Tm × Option Addr × Nat)) : List Int := pre.map fun x => (x.1 : Int)
/-- what the loop has gathered in box ob -/
structure OutN (n0 ob : Nat) (W : World) (pre : List (Nat × Tm × Option Addr × Nat)) (M : Nat → Prop) : Prop where
  row : ∃ v, W.cell? ⟨ob, 0, none⟩ = some v ∧ W.frozen? ⟨ob, 0, none⟩ = false ∧ W.ownsRow (ob + 1) 3 1 v (outN pre).length ((outN pre).map (Value.int .i64)) ∧ ∀ b, v.ownBlock = some b → M b
  mo : M ob
  lo : ∀ b, M b → n0 ≤ b
  lt : ∀ b, M b → b < W.heap.size
theorem OutN.rest {n0 ob : Nat} {W W' : World} {pre : List (Nat × Tm × Option Addr × Nat)} {M : Nat → Prop} (h : OutN n0 ob W pre M) (hs : W.heap.size ≤ W'.heap.size) (hb : ∀ b, M b → W'.heap[b]? = W.heap[b]?) : OutN n0 ob W' pre M := by
  obtain ⟨v, c, f, o, hm⟩ := h.row
  have cc : ∀ {b o' : Nat} {x : Value}, M b → W.cell? ⟨b, o', none⟩ = some x → W'.cell? ⟨b, o', none⟩ = some x := fun {b o' x} hm hx => (World.cell?_of_block (a := ⟨b, o', none⟩) (hb b hm)).trans hx
  refine ⟨⟨v, cc h.mo c, (World.frozen?_of_block (a := ⟨ob, 0, none⟩) (hb _ h.mo)).trans f, ⟨o.1, ?_⟩, hm⟩, h.mo, h.lo, fun b hb' => Nat.lt_of_lt_of_le (h.lt b hb') hs⟩
  rcases o.2 with hn | ⟨g', cap, cur, e, h1, h2, r⟩
  · exact .inl hn
  · exact .inr ⟨g', cap, cur, e, h1, (hb g' (hm g' (by rw [e]; rfl))).trans h2, r⟩
theorem OutN.push {n0 ob : Nat} {W w1 : World} {pre : List (Nat × Tm × Option Addr × Nat)} {M : Nat → Prop} {v : Value} (h : OutN n0 ob W pre M) (hc : W.cell? ⟨ob, 0, none⟩ = some v)
    {x : Nat × Tm × Option Addr × Nat} {T : TypeId} {g7 cap : Nat}
    (ho : w1.ownsRow (ob + 1) 3 1 (.slice (some ⟨g7, 0, none⟩) ((outN pre).length + 1) cap) ((outN pre).length + 1) ((outN pre).map (Value.int .i64) ++ [.int .i64 x.1])) (hg : (W.alloc (.cells #[.int .i64 x.1] T)).grownBy w1 v.ownBlock)
    (hl : (Value.slice (some ⟨g7, 0, none⟩) ((outN pre).length + 1) cap).ownBlock = v.ownBlock ∨ (Value.slice (some ⟨g7, 0, none⟩) ((outN pre).length + 1) cap).ownBlock = some (W.alloc (.cells #[.int .i64 x.1] T)).heap.size) :
    ∃ M' : Nat → Prop, (∀ b, M' b → M b ∨ W.heap.size ≤ b) ∧ Agr M W (w1.setCell ⟨ob, 0, none⟩ (.slice (some ⟨g7, 0, none⟩) ((outN pre).length + 1) cap)) ∧
      OutN n0 ob (w1.setCell ⟨ob, 0, none⟩ (.slice (some ⟨g7, 0, none⟩) ((outN pre).length + 1) cap)) (pre ++ [x]) M' := by
  obtain ⟨v0, h1, h2, h3, h4⟩ := h.row
  rw [hc] at h1
  injection h1 with h1
  subst h1
  have hsz : (W.alloc (.cells #[.int .i64 x.1] T)).heap.size = W.heap.size + 1 := by simp
  have hs1 : W.heap.size + 1 ≤ w1.heap.size := by rw [← hsz]; exact hg.size
  obtain ⟨hsS, hbS⟩ := setBlk w1 ⟨ob, 0, none⟩ (.slice (some ⟨g7, 0, none⟩) ((outN pre).length + 1) cap)
  have hob := h.lt ob h.mo
  have hw1 : ∀ b, b < W.heap.size → v.ownBlock ≠ some b → w1.heap[b]? = W.heap[b]? := fun b hb hne => (hg.block b (by omega) (fun e => hne e.symm)).trans (Below.heap_alloc W _ b hb)
  have hg' : v.ownBlock = some g7 ∨ W.heap.size ≤ g7 := by
    rcases hl with e | e
    · exact .inl e.symm
    · right
      have : some g7 = some (W.alloc (.cells #[.int .i64 x.1] T)).heap.size := e
      injection this with this
      omega
  have hgob : ob + 1 ≤ g7 := (ho.lt g7 rfl).1
  have hglt : g7 < w1.heap.size := (ho.lt g7 rfl).2
  have hvob : v.ownBlock ≠ some ob := fun e => by have := (h3.lt ob e).1; omega
  refine ⟨fun b => M b ∨ b = g7, fun b hb => ?_, ⟨?_, fun b hb hn => ?_⟩, ?_⟩
  · rcases hb with e | rfl
    · exact .inl e
    · rcases hg' with e | e
      · exact .inl (h4 b e)
      · exact .inr e
  · exact (((Below.refl 0 W).alloc (Nat.zero_le _) _).grown hg (Nat.zero_le _) (fun _ _ => Nat.zero_le _)).setCell (p := ⟨ob, 0, none⟩) (Nat.zero_le _) _
  · exact (hbS b (fun e => hn (by dsimp only at e; rw [e]; exact h.mo))).trans (hw1 b hb (fun e => hn (h4 b e)))
  · refine ⟨⟨_, World.cell?_setCell_same _ _ _ (u := v) ((World.cell?_of_block (a := ⟨ob, 0, none⟩) (hw1 ob hob hvob)).trans hc), ?_, ?_, fun b e => ?_⟩, .inl h.mo, fun b hb => ?_, fun b hb => ?_⟩
    · rw [World.frozen?_setCell]; exact (World.frozen?_of_block (a := ⟨ob, 0, none⟩) (hw1 ob hob hvob)).trans h2
    · unfold outN at ho ⊢
      rw [List.map_append, List.length_append, List.map_append]
      exact own_blkI ho (fun b e => hbS b (fun e' => by
        have : some g7 = some b := e
        injection this with this
        dsimp only at e'; omega))
    · have : some g7 = some b := e
      injection this with this
      subst this
      exact .inr rfl
    · rcases hb with hb | rfl
      · exact h.lo b hb
      · rcases hg' with e | e
        · exact h.lo _ (h4 _ e)
        · have := h.lo _ h.mo; omega
    · rw [hsS]
      rcases hb with hb | rfl
      · have := h.lt b hb; omega
      · exact hglt
attribute [local go_sem] Oper.semAt_some
set_option maxRecDepth 1000000 in
set_option maxHeartbeats 6400000 in
theorem indexNamed_c (vh : Value) (H : List Tm) (nm : ByteArray) (n : Int) (w : World) (hh : TsAt (fun _ => True) w vh H) (hl : H.length ≤ 4096) :
    Calls Try.prog 53 #[vh, .string nm, .int .i64 n] w (RetWhich ((namedTo H nm n H.length).map (fun (i : Nat) => (i : Int))) w) := by
  obtain ⟨ao, cap, rfl, _⟩ := hh.shape
  obtain ⟨W2, hW2⟩ : ∃ W2, W2 = w.alloc (.cells #[.slice none 0 0] 29) := ⟨_, rfl⟩
  have B2 : Hid (Below w.heap.size w W2) := by rw [hW2]; exact (Below.refl _ _).alloc (Nat.le_refl _) _
  have Y2 : Hid (BoxL W2 w.heap.size [.slice none 0 0]) := by rw [hW2]; exact BoxL.mk' w #[.slice none 0 0] 29
  have hs2 : Hid (W2.heap.size = w.heap.size + 1) := by show _ = _; rw [hW2]; simp
  have HH := Lib.hid hh
  have HWE := Lib.hid hW2
  have CNd : Hid (Calls Try.prog 86 #[.slice ao H.length cap, .string nm, .int .i64 n] W2 fun e w' => e = .returned (.func (.func 114) #[] #[.pointer (some ⟨W2.heap.size, 0, none⟩), .pointer (some ⟨W2.heap.size + 1, 0, none⟩), .pointer (some ⟨W2.heap.size + 1 + 1, 0, none⟩)]) ∧
      (w'.cell? ⟨W2.heap.size, 0, none⟩ = some (.slice ao H.length cap) ∧ w'.cell? ⟨W2.heap.size + 1, 0, none⟩ = some (.string nm) ∧ w'.cell? ⟨W2.heap.size + 1 + 1, 0, none⟩ = some (.int .i64 n)) ∧ Below W2.heap.size W2 w' ∧ w'.heap.size = W2.heap.size + 3) := idxNamed_c _ _ _ _ _ W2
  obtain ⟨HS, hHS⟩ : ∃ HS, HS = W2.heap.size := ⟨_, rfl⟩
  rw [← hHS] at CNd
  have HH2 := Lib.hid hHS
  clear hh hW2 hHS
  refine (callsIn_wide (n := 3)).1 (callsIn_of_wp_marks Try.func53 rfl trivial ?_ rfl)
  refine wpIn_wide.2 ?_
  simp only [Try.ntmps53, List.size_toArray, List.length_cons, List.length_nil, Nat.reduceAdd, Nat.reduceSub, Array.replicate_succ, Array.replicate_zero, List.push_toArray, List.append_toArray, List.nil_append, List.cons_append]
  go_upto_region 2 with fail
  rw [← HWE.out]
  go_wp2_with (go_at_call 86; (with_reducible refine CNd.out.mono ?_); rintro e W3 ⟨rfl, ⟨c0, c1, c2⟩, b3, s3⟩; have C3 := Lib.hid c0; have C4 := Lib.hid c1; have C5 := Lib.hid c2; have B3 := Lib.hid b3; have S3 := Lib.hid s3; clear c0 c1 c2 b3 s3)
  refine (wpIn_wide (n := 3)).1 ?_
  have hs3 : W3.heap.size = HS + 3 := S3.out
  have B3' : Hid (Below W2.heap.size W2 W3) := by rw [← HH2.out]; exact B3.out
  have hs2w : W2.heap.size = w.heap.size + 1 := hs2.out
  have hhs : HS = w.heap.size + 1 := HH2.out.trans hs2.out
  have BIN : Hid (Below w.heap.size w W3) := B2.out.trans (B3'.out.mono B2.out.size)
  have Y3 := Lib.hid (Y2.out.below B3'.out (by omega))
  have I0 : Hid (OutN w.heap.size w.heap.size W3 [] (fun b => b = w.heap.size)) :=
    ⟨⟨_, (Y3.out.get 0 rfl).1, (Y3.out.get 0 rfl).2, World.ownsRow_nil _ _ _ _, fun b e => (by cases e)⟩, rfl, fun b hb => by rcases hb with rfl <;> omega, fun b hb => by rcases hb with rfl <;> omega⟩
  have HSEQ : Hid (∀ W', Below W3.heap.size W3 W' → W'.heap.size = W3.heap.size + 2 → SeqL Fence.wide 2 Try.prog 114 #[.pointer (some ⟨HS, 0, none⟩), .pointer (some ⟨HS + 1, 0, none⟩), .pointer (some ⟨HS + 1 + 1, 0, none⟩)] encH (GotH w H nm n) ownH w.heap.size (DoneH H nm n) StopH (fun b => b = w.heap.size ∨ b = W3.heap.size ∨ b = W3.heap.size + 1) W') := fun W' hb hs =>
    named_seq w W' HS (HS + 1) (HS + 1 + 1) (.slice ao H.length cap) H nm n _ ⟨HH.out, hl, BIN.out.trans (hb.mono BIN.out.size), (hb.cell (p := ⟨HS, 0, none⟩) (by dsimp only; omega)).trans C3.out, (hb.cell (p := ⟨HS + 1, 0, none⟩) (by dsimp only; omega)).trans C4.out, (hb.cell (p := ⟨HS + 1 + 1, 0, none⟩) (by dsimp only; omega)).trans C5.out, (by omega), (by omega), (by omega), (fun b e => by omega)⟩ 2
  clear hhs hs3 hs2w B3 S3 C3 C4 C5 Y2 Y3 CNd
  refine wpIn_rangeFunc_L rfl (by decide) (gf := 114) (lb := #[.pointer (some ⟨HS, 0, none⟩), .pointer (some ⟨HS + 1, 0, none⟩), .pointer (some ⟨HS + 1 + 1, 0, none⟩)]) rfl trivial (enters_of Try.func114 (by kernel_rfl) rfl)
    (encs := encH) (Got := GotH w H nm n) (own := ownH) (n0 := w.heap.size) (M0 := fun b => b = w.heap.size) HSEQ.out BIN.out.size (fun _ => rfl)
    (fun pre x W W' h _ _ => h) (fun xs W o' h => h) (fun xs W o' h => h)
    (fun pre M W => OutN w.heap.size w.heap.size W pre M) (fun _ _ _ _ => False)
    (fun pre M W W' h hs hb => h.rest hs hb) (fun c pre M W W' h hs hb => h) (fun pre M W h => h.lt) (fun c pre M W h => h.elim) I0.out
    (fun x W => { tmps := #[.slice ao H.length cap, .string nm, .int .i64 n, undef, undef, undef, .slice none 0 0, .pointer (some ⟨w.heap.size, 0, none⟩), .int .i64 (x.1 : Nat), .slice ao H.length cap, .string nm, .int .i64 n, .func (.func 114) #[] #[.pointer (some ⟨HS, 0, none⟩), .pointer (some ⟨HS + 1, 0, none⟩), .pointer (some ⟨HS + 1 + 1, 0, none⟩)], .int .i64 (x.1 : Nat), .agg #[.int .i64 x.2.1.kind, .int .i64 x.2.1.num, .string x.2.1.name, .slice x.2.2.1 x.2.1.args.length x.2.2.2], undef, undef, undef, undef, undef], defers := [] })
    (fun x W => W) (fun x W => Below.refl _ _) (fun x Wy W => True) (fun x W o hlt => trivial) ?assign ?body ?done ?stop
  case assign =>
    intro l x W K hK
    dsimp only [encH]
    gi_wp2
    exact hK
  case body =>
    rintro l pre M ⟨i, t, pt, q1⟩ Wy W hLd hO ⟨hxp, hxi, hxh, hxt⟩ hown hsz hB
    dsimp only at hxi hxp
    have hiH : i < H.length := (List.getElem?_eq_some_iff.1 hxi).1
    have hpl : pre.length ≤ 4096 := by have h1 := congrArg List.length hxp; rw [List.length_map] at h1; have h2 := namedTo_len H nm n i; omega
    have hol : (outN pre).length ≤ 4096 := by unfold outN; rw [List.length_map]; exact hpl
    obtain ⟨vo, hc, hf, hrow, hvm⟩ := hO.row
    obtain ⟨av, cvv, rfl, _⟩ := (SlAt.of_own hrow).shape
    obtain ⟨t0, ht, hz0', hz1', hz2'⟩ := info_parts Try.infoInt
    have hob := hO.lt _ hO.mo
    have hvob : (Value.slice av (outN pre).length cvv).ownBlock ≠ some w.heap.size := fun e => by have := (hrow.lt _ e).1; omega
    have HC := Lib.hid hc
    have HO := Lib.hid hO
    clear hvm hO hxp hxi hxh hxt hown hB hLd
    dsimp only
    gi_wp2_with (gi_at_builtin; refine wpListIn_append_own_at _ rfl (.tmp 15) (.tmp 17) 29 rfl (w.heap.size + 1) 3 t0 (.int .i64 0) 1 8 Try.underlying29 ht hz0' hz1' hz2' rfl (by decide) (.slice av (outN pre).length cvv) (outN pre).length ((outN pre).map (Value.int .i64)) rfl (hrow.alloc _) ⟨W.heap.size, 0, none⟩ 1 1 [.int .i64 i] rfl rfl (cell_one_new _ _ _) (one1 rfl) (by unfold maxLen; omega) (by omega) (by simp; omega) ?_; intro v' w1 r1 r2 r3 r4; obtain ⟨g7, cap7, rfl, _, _⟩ := r1.form (Nat.succ_pos _); have hw1 : (∀ b, b < W.heap.size → (Value.slice av (outN pre).length cvv).ownBlock ≠ some b → w1.heap[b]? = W.heap[b]?) := (fun b hb hne => (r2.block b (by simp; omega) (fun e => hne e.symm)).trans (Below.heap_alloc W _ b hb)); have k1 := (World.cell?_of_block (a := ⟨w.heap.size, 0, none⟩) (hw1 _ hob hvob)).trans hc; have k1f := (World.frozen?_of_block (a := ⟨w.heap.size, 0, none⟩) (hw1 _ hob hvob)).trans hf; have k2 : (∀ u, (w1.setCell ⟨w.heap.size, 0, none⟩ u).cell? ⟨w.heap.size, 0, none⟩ = some u) := (fun u => World.cell?_setCell_same _ _ _ k1))
    obtain ⟨M', p1, p2, p3⟩ := OutN.push (x := (i, t, pt, q1)) HO.out HC.out r1 r2 r4
    exact ⟨M', fun b hb => (p1 b hb).elim (fun h => .inl (.inl h)) (fun h => .inr h), ⟨p2.1, fun b hb hn => p2.2 b hb (fun h => hn (.inl h))⟩, p3⟩
  case done =>
    rintro D xs M W hd hO hK hDl hDm hB
    have hbo : Below w.heap.size w (W.putObj D (.deferred none)) := (BIN.out.trans hB).grown (grownBy_putObj' _ _ _) (by have := (BIN.out.trans hB).size; omega) (fun k e => by cases e; have := BIN.out.size; omega)
    have hO2 : OutN w.heap.size w.heap.size (W.putObj D (.deferred none)) xs M := hO.rest (by simp) (fun b hm => World.putObj_heap_other (fun e => hDm (by rw [← e]; exact hm)))
    obtain ⟨vo, hco, _, hro, _⟩ := hO2.row
    obtain ⟨ao', cap', rfl, _⟩ := (SlAt.of_own hro).shape
    have hx : W.cell? ⟨w.heap.size, 0, none⟩ = some (.slice ao' (outN xs).length cap') := (World.cell?_of_block (a := ⟨w.heap.size, 0, none⟩) (World.putObj_heap_other (w := W) (o := .deferred none) (fun e => hDm (by rw [← e]; exact hO.mo)))).symm.trans hco
    have HE : Hid (outN xs = (namedTo H nm n H.length).map (fun (i : Nat) => (i : Int))) := by show _ = _; rw [← (show xs.map Prod.fst = namedTo H nm n H.length from hd)]; unfold outN; rw [List.map_map]; rfl
    have HLS := Lib.hid (SlAt.of_own hro)
    have HBO := Lib.hid hbo
    clear hO hO2 hro hbo hB hd
    go_wp2
    refine ⟨by simp, .inl ⟨_, _, rfl, run_takeDeferred hK, ?_⟩⟩
    refine ⟨_, by simp [results, Try.results53, go_sem]; rfl, ?_⟩
    rw [← HE.out]
    exact ⟨_, _, rfl, HLS.out, HBO.out⟩
  case stop =>
    rintro D c pre M W _ hO
    exact hO.elim
end Go.Proofs.Ytmffobadnmkpbaa
namespace Go.Proofs.Ytmffobadnmkpbaa
open Go.RowKit

theorem headOf_isR (t : Tm) (nm : ByteArray) (n : Int) : isR t nm n = headOf nm n t := by unfold isR headOf; rw [Bool.and_assoc]
def namedZ (H : List Tm) (nm : ByteArray) (n : Int) (k : Nat) : List Int := (namedTo H nm n k).map fun (i : Nat) => (i : Int)
theorem namedZ_len (H : List Tm) (nm : ByteArray) (n : Int) (k : Nat) : (namedZ H nm n k).length ≤ k := by unfold namedZ; rw [List.length_map]; exact namedTo_len H nm n k
theorem namedZ_step (H : List Tm) (nm : ByteArray) (n : Int) (k : Nat) (hk : k < H.length) : namedZ H nm n (k + 1) = namedZ H nm n k ++ (if headOf nm n H[k] then [(k : Int)] else []) := by
  unfold namedZ; rw [namedTo_step H nm n k hk, List.map_append]; cases headOf nm n H[k] <;> rfl
theorem own_madeI (w : World) : (w.alloc (.cells #[] 3)).ownsRow w.heap.size 3 1 (.slice (some ⟨w.heap.size, 0, none⟩) 0 0) 0 [] :=
  World.ownsRow_made (base := w.heap.size) (size := 1) (e := 3) w #[] 0 (by simp) (by decide) rfl
/-- a list of integers in new memory of its own -/
def RetOwnX (L : List Int) (w : World) (e : Ending) (w' : World) : Prop := ∃ ao cap, e = .returned (.slice ao L.length cap) ∧ w'.ownsRow w.heap.size 3 1 (.slice ao L.length cap) L.length (L.map (Value.int .i64)) ∧ Below w.heap.size w w'
theorem RetOwnX.which {L : List Int} {w : World} {e : Ending} {w' : World} (h : RetOwnX L w e w') : RetWhich L w e w' := by
  obtain ⟨ao, cap, rfl, h1, h2⟩ := h; exact ⟨ao, cap, rfl, SlAt.of_own h1, h2⟩
set_option maxRecDepth 1000000 in
set_option maxHeartbeats 6400000 in
theorem refNamed_c (vh : Value) (H : List Tm) (nm : ByteArray) (n : Int) (w : World) (hh : TsAt (fun _ => True) w vh H) (hl : H.length ≤ 4096) :
    Calls Try.prog 87 #[vh, .string nm, .int .i64 n] w (RetOwnX (namedZ H nm n H.length) w) := by
  obtain ⟨ao, cap, rfl, _⟩ := hh.shape
  obtain ⟨i0, hi, hz0, hz1, hz2⟩ := info_parts Try.infoInt
  have HH := Lib.hid hh
  have HB0 := Lib.hid (below_one w (.cells #[] 3))
  clear hh
  go_enter Try.func87, Try.ntmps87
  go_wp2
  go_loopg [7, 8] H.length (fun f o s wr => ∃ (k : Nat) (L : List Int), k ≤ H.length ∧ s = .int .i64 k ∧ L.length ≤ k ∧ Hid (f = H.length - k) ∧ Hid (L = namedZ H nm n k) ∧ Hid (wr.ownsRow w.heap.size 3 1 o L.length (L.map (Value.int .i64))) ∧ Hid (Below w.heap.size w wr))
  case atStart => exact ⟨0, [], by omega, rfl, by simp, rfl, rfl, own_madeI w, HB0.out⟩
  case round =>
    obtain ⟨k, L, hk, rfl, hLk, HN, HL, HO, HW⟩ := hrel
    by_cases hlt : k < H.length
    · obtain ⟨b, off, a1, rfl, -, hcc, hta⟩ := HH.out.get k hlt
      obtain ⟨p1, q1, rfl, _⟩ := hta.shape
      obtain ⟨c0, c1, c2, c3⟩ := hcc.block (HW.out.block _ hcc.lt)
      have hbw := World.block_lt_of_cell? wr _ c0
      have HS := Lib.hid (namedZ_step H nm n k hlt)
      have hb0 : w.heap.size ≤ wr.heap.size := HW.out.size
      clear hcc hta
      generalize H[k] = t at *
      have CI : Hid (∀ W, Calls Try.prog 84 #[.agg #[.int .i64 t.kind, .int .i64 t.num, .string t.name, .slice p1 t.args.length q1], .string nm, .int .i64 n] W fun e w' => e = .returned (.bool (headOf nm n t)) ∧ Below W.heap.size W w') := fun W => by
        have h := isRef_c t p1 q1 nm n W
        rw [headOf_isR] at h; exact h
      generalize headOf nm n t = r at *
      obtain ⟨oa, oc, rfl, _⟩ := (SlAt.of_own HO.out).shape
      cases r with
      | false =>
        have HL2 : Hid (L = namedZ H nm n (k + 1)) := by show _ = _; rw [HS.out, HL.out]; simp
        go_wp2_with (first | (go_at_call 84; ((with_reducible refine (CI.out _).mono ?_); rintro e W2 ⟨rfl, bb⟩; have B2 := Lib.hid bb; clear bb)))
        go_roundg (H.length - (k + 1))
        case measure => have := HN.out; omega
        case rel => exact ⟨k + 1, L, by omega, by go_num, by omega, rfl, HL2, own_below HO.out B2.out, HW.out.trans (B2.out.mono hb0)⟩
      | true =>
        have HL2 : Hid (L ++ [(k : Int)] = namedZ H nm n (k + 1)) := by show _ = _; rw [HS.out, HL.out]; simp
        go_wp2_with (first
          | (at_builtin; refine wpList_appendX rfl (.tmp 23) (.tmp 25) 29 rfl w.heap.size 3 i0 (.int .i64 0) 1 8 Try.underlying29 hi hz0 hz1 hz2 rfl (by decide) _ L.length (L.map (Value.int .i64)) rfl (own_below HO.out B2.out) _ _ rfl rfl rfl (one1 rfl) ⟨by omega, by omega⟩ (Nat.le_trans hb0 B2.out.size) ?_; intro g cap W5 ho5 hb5 hk5 hl5; have R5 := Lib.hid ho5; have B5 := Lib.hid ((HW.out.trans (B2.out.mono hb0)).trans hb5); clear ho5 hb5 hk5 hl5)
          | (go_at_call 84; ((with_reducible refine (CI.out _).mono ?_); rintro e W2 ⟨rfl, bb⟩; have B2 := Lib.hid bb; clear bb)))
        go_roundg (H.length - (k + 1))
        case measure => have := HN.out; omega
        case rel => exact ⟨k + 1, L ++ [(k : Int)], by omega, by go_num, by simp; omega, rfl, HL2, Lib.hid (by simpa using R5.out), B5.out⟩
    · obtain rfl : k = H.length := by omega
      obtain ⟨oa, oc, rfl, _⟩ := (SlAt.of_own HO.out).shape
      go_wp2
      go_ret
      rw [← HL.out]
      exact ⟨_, _, rfl, HO.out, HW.out⟩
end Go.Proofs.Ytmffobadnmkpbaa
