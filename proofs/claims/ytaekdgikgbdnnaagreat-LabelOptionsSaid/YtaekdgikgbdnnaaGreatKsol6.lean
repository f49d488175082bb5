/-
  label.Solve, walked, where it may begin.
  PLAIN LAWS of the search from the leftmost variable on: its answers stand in order; no program.
  PLAIN LAWS: all values of some domains, one list behind the other; no program.
-/
import Derived.Test.YtaekdgikgbdnnaaGreatKsol5
import Derived.Test.YtaekdgikgbdnnaaGreatKsol3
import Derived.Test.YtaekdgikgbdnnaaGreatKflaw1
import Derived.Test.YtaekdgikgbdnnaaGreatKdom1
namespace Go.Proofs.YtaekdgikgbdnnaaGreat
open Go.RowKit

/-- what Solve hands back -/
def SolveR (r : List (List Int) × Nat × Bool) (w : World) (e : Ending) (w' : World) : Prop :=
  Below w.heap.size w w' ∧ ((r.2.2 = true ∧ e = .returned (.tuple #[.slice none 0 0, .int .i64 34])) ∨ (r.2.2 = false ∧ ∃ ao cap, e = .returned (.tuple #[.slice ao r.1.length cap, .int .i64 0]) ∧ LsFrom w.heap.size w' (.slice ao r.1.length cap) r.1))

theorem labChk_sound {sel ord br : Int} {n : Nat} (h : labChk sel ord br n = 0) : (sel = 0 ∨ sel = 1 ∨ sel = 2 ∨ sel = 3 ∨ sel = 4) ∧ (ord = 0 ∨ ord = 1) ∧ (br = 0 ∨ br = 1) := by
  unfold labChk at h
  split at h
  · cases h
  · omega
attribute [local go_sem] Oper.semAt_some
set_option maxRecDepth 1000000 in
set_option maxHeartbeats 3200000 in
theorem solve_ok (vds vps vv vw : Value) (o : SOpt) (ds : Ds) (ps : List PL) (vars : List Int) (most nodes : Nat) (w : World) (hd : DsAt w vds ds) (hp : PsAt w vps ps) (hv : IsAt w vv vars) (hw : IsAt w vw o.ws)
    (hin : FixIn ds ps) (hlc : labChk o.sel o.ord o.br o.ws.length = 0) (hfc : fixChk ds.length ps = 0) (hvl : vars.length ≤ 64) (hvi : ∀ v ∈ vars, 0 ≤ v ∧ v.toNat < ds.length) (h1 : 1 ≤ most) (h2 : most ≤ 1000) (h3 : 1 ≤ nodes) (h4 : nodes ≤ 10000) :
    Calls Tryz.prog 13 #[vds, vps, vv, .agg #[.int .i64 o.sel, .int .i64 o.ord, .int .i64 o.br, vw], .int .i64 most, .int .i64 nodes] w (SolveR (findR ps vars o most nodes [ds]) w) := by
  obtain ⟨a0, c0, rfl, _⟩ := hd.shape
  obtain ⟨a1, c1, rfl, _⟩ := hp.shape
  obtain ⟨a2, c2, rfl, _⟩ := hv.shape'
  obtain ⟨a3, c3, rfl, _⟩ := hw.shape'
  obtain ⟨W0, hW0⟩ : ∃ W0, W0 = (w.alloc (.cells #[.int .i64 o.sel, .int .i64 o.ord, .int .i64 o.br, .slice a3 o.ws.length c3] 28)).alloc (.cells #[.int .i64 most] 3) := ⟨_, rfl⟩
  have hz0 := boxZ w (.int .i64 o.sel) (.int .i64 o.ord) (.int .i64 o.br) (.slice a3 o.ws.length c3) 28
  have B0 : Hid (Below w.heap.size w W0) := by rw [hW0]; exact hz0.alloc hz0.size _
  have hx0 : BoxL W0 w.heap.size [.int .i64 o.sel, .int .i64 o.ord, .int .i64 o.br, .slice a3 o.ws.length c3] := by
    rw [hW0]
    exact (BoxL.mk' w #[.int .i64 o.sel, .int .i64 o.ord, .int .i64 o.br, .slice a3 o.ws.length c3] 28).below ((Below.refl _ _).alloc (Nat.le_refl _) _) (by simp)
  have hx1 : W0.cell? ⟨w.heap.size + 1, 0, none⟩ = some (.int .i64 most) := by
    have h := ((BoxL.mk' (w.alloc (.cells #[.int .i64 o.sel, .int .i64 o.ord, .int .i64 o.br, .slice a3 o.ws.length c3] 28)) #[.int .i64 most] 3).get 0 rfl).1
    rw [show (w.alloc (.cells #[.int .i64 o.sel, .int .i64 o.ord, .int .i64 o.br, .slice a3 o.ws.length c3] 28)).heap.size = w.heap.size + 1 by simp, ← hW0] at h
    exact h
  have hs0 : W0.heap.size = w.heap.size + 2 := by rw [hW0]; simp
  have CB := Lib.hid (begin_ok (.slice a0 ds.length c0) (.slice a1 ps.length c1) (.slice a2 vars.length c2) (.slice a3 o.ws.length c3) o.sel o.ord o.br ds ps vars o.ws most nodes W0 (hd.below B0.out) (hp.below B0.out) (hv.below B0.out) (hw.below B0.out) hin.ok hlc hfc hvl hvi (by omega) (by omega) (by omega) (by omega))
  obtain ⟨l0, _⟩ := hx0.get 0 rfl
  obtain ⟨l1, _⟩ := hx0.get 1 rfl
  obtain ⟨l2, _⟩ := hx0.get 2 rfl
  obtain ⟨l3, _⟩ := hx0.get 3 rfl
  have HD := Lib.hid hd
  have HP := Lib.hid hp
  have HV := Lib.hid hv
  have HW := Lib.hid hw
  have HIN := Lib.hid hin
  have HVI := Lib.hid hvi
  have HLC := Lib.hid hlc
  have HWE := Lib.hid hW0
  have HS0 := Lib.hid hs0
  have HX1 := Lib.hid hx1
  clear hd hp hv hw hin hlc hfc hvi hW0 hz0 hx0 hs0
  refine (callsIn_wide (n := 3)).1 (callsIn_of_wp_marks Tryz.func13 rfl trivial ?_ rfl)
  refine wpIn_wide.2 ?_
  simp only [Tryz.ntmps13, List.size_toArray, List.length_cons, List.length_nil, Nat.reduceAdd, Nat.reduceSub, Array.replicate_succ, Array.replicate_zero, List.push_toArray, List.append_toArray, List.nil_append, List.cons_append]
  go_upto_region 1 with fail
  rw [← HWE.out]
  go_upto_region 4 with (go_at_call 26; (with_reducible refine CB.out.mono ?_); rintro e W1 ⟨sb, rfl, hsb, hsr, b1⟩; have B1 := Lib.hid b1; have SR := Lib.hid hsr; have HSB := Lib.hid hsb; clear b1 hsr hsb)
  have hsl := SR.out.lt
  obtain ⟨W2, hW2⟩ : ∃ W2, W2 = W1.alloc (.cells #[.slice none 0 0] 32) := ⟨_, rfl⟩
  have BW2 : Hid (Below W1.heap.size W1 W2) := by rw [hW2]; exact (Below.refl _ _).alloc (Nat.le_refl _) _
  have hb2 := BoxL.mk' W1 #[.slice none 0 0] 32
  rw [← hW2] at hb2
  have HB2 := Lib.hid hb2
  have hs2 : Hid (W2.heap.size = W1.heap.size + 1) := by show _ = _; rw [hW2]; simp
  have HW2 := Lib.hid hW2
  have CA : Hid (Calls Tryz.prog 27 #[.pointer (some ⟨sb, 0, none⟩), .slice a0 ds.length c0] W2 fun e w' => e = .returned (.func (.func 42) #[] #[.pointer (some ⟨W2.heap.size + 1, 0, none⟩), .pointer (some ⟨W2.heap.size, 0, none⟩)]) ∧
      w'.cell? ⟨W2.heap.size, 0, none⟩ = some (.pointer (some ⟨sb, 0, none⟩)) ∧ w'.cell? ⟨W2.heap.size + 1, 0, none⟩ = some (.slice a0 ds.length c0) ∧ Below W2.heap.size W2 w' ∧ w'.heap.size = W2.heap.size + 2) := answers_c sb _ W2 a0 ds.length c0 rfl
  obtain ⟨HS, hHS⟩ : ∃ HS, HS = W2.heap.size := ⟨_, rfl⟩
  rw [← hHS] at CA
  have HHS := Lib.hid hHS
  clear hb2 hW2 hHS
  go_upto_region 5 with fail
  rw [← HW2.out]
  go_wp2_with (go_at_call 27; (with_reducible refine CA.out.mono ?_); rintro e W3 ⟨rfl, x0, x1, b3, s3⟩; have X0 := Lib.hid x0; have X1 := Lib.hid x1; have B3 := Lib.hid b3; have S3 := Lib.hid s3; clear x0 x1 b3 s3)
  have HOB : Hid (W1.heap.size + 1 = HS) := by show _ = _; rw [HHS.out, hs2.out]
  have hsb := HSB.out
  have hs0 := HS0.out
  have B1s := B1.out.size
  have S3' := S3.out
  have B3' : Below W2.heap.size W2 W3 := by rw [← HHS.out]; exact B3.out
  have BW3 : Hid (Below W1.heap.size W1 W3) := BW2.out.trans (B3'.mono BW2.out.size)
  have BIN : Hid (Below w.heap.size w W3) := (B0.out.trans (B1.out.mono B0.out.size)).trans (BW3.out.mono (Nat.le_trans B0.out.size B1s))
  have SR3 := Lib.hid (SR.out.on (BW3.out.block _ hsl))
  have hob3 : W3.cell? ⟨W1.heap.size, 0, none⟩ = some (.slice none 0 0) := (B3'.cell (p := ⟨W1.heap.size, 0, none⟩) (by have := hs2.out; dsimp only; omega)).trans (HB2.out.get 0 rfl).1
  have hof3 : W3.frozen? ⟨W1.heap.size, 0, none⟩ = false := (B3'.frozen (p := ⟨W1.heap.size, 0, none⟩) (by have := hs2.out; dsimp only; omega)).trans (HB2.out.get 0 rfl).2
  have hbm3 : W3.cell? ⟨w.heap.size + 1, 0, none⟩ = some (.int .i64 most) := (BW3.out.cell (p := ⟨w.heap.size + 1, 0, none⟩) (by dsimp only; omega)).trans ((B1.out.cell (p := ⟨w.heap.size + 1, 0, none⟩) (by dsimp only; omega)).trans HX1.out)
  have hob1 := HOB.out
  have I0 : Hid (OutW w.heap.size W1.heap.size (w.heap.size + 1) most W3 [] (fun b => b = W1.heap.size ∨ b = w.heap.size + 1)) :=
    ⟨⟨_, hob3, hof3, World.ownsRow_nil _ _ _ _, fun b e => (by cases e), fun x hx => (by cases hx)⟩, hbm3, .inl rfl, .inr rfl, by omega, by omega, fun b hb => by rcases hb with rfl | rfl <;> omega⟩
  obtain ⟨hse, hor, hbr⟩ := labChk_sound HLC.out
  have HSEQ : Hid (∀ W', Below W3.heap.size W3 W' → W'.heap.size = W3.heap.size + 2 → SeqM Fence.wide 2 Tryz.prog 42 #[.pointer (some ⟨HS + 1, 0, none⟩), .pointer (some ⟨HS, 0, none⟩)] (fun x => #[x.1]) (GotI w.heap.size) ownI w.heap.size (AnsDone ps vars o nodes ds sb (.slice a1 ps.length c1) (.slice a2 vars.length c2) (.slice a3 o.ws.length c3)) (AnsStop ps vars o nodes ds sb (.slice a1 ps.length c1) (.slice a2 vars.length c2) (.slice a3 o.ws.length c3)) (fun b => (b = W1.heap.size ∨ b = w.heap.size + 1) ∨ b = W3.heap.size ∨ b = W3.heap.size + 1) W') := fun W' hb _ => by
    have hbi := BIN.out.trans (hb.mono BIN.out.size)
    have hx0 := X0.out
    have hx1 := X1.out
    refine answers_seq w W' (HS + 1) HS sb (.slice a0 ds.length c0) (.slice a1 ps.length c1) (.slice a2 vars.length c2) (.slice a3 o.ws.length c3) ds ps vars o nodes _ ⟨HP.out, HV.out, HW.out, hbi, SR3.out.on (hb.block _ (by omega)), (hb.cell (p := ⟨HS, 0, none⟩) (by dsimp only; omega)).trans hx0, (hb.cell (p := ⟨HS + 1, 0, none⟩) (by dsimp only; omega)).trans hx1,
      DsQ.of_input HD.out hbi (fun b hb' => ⟨fun e => by omega, by omega⟩), by omega, by omega, fun e => by omega, fun e => by omega, fun b e => by omega, HIN.out, HVI.out, hvl, h4, hse, hor, hbr⟩ 2
  clear hob3 hof3 hbm3 SR3 hse hor hbr
  refine (wpIn_wide (n := 3)).1 ?_
  refine wpIn_rangeFunc_M rfl (by decide) (gf := 42) (lb := #[.pointer (some ⟨HS + 1, 0, none⟩), .pointer (some ⟨HS, 0, none⟩)]) rfl trivial (enters_of Tryz.func42 (by kernel_rfl) rfl)
    (encs := fun x : Value × List Int => #[x.1]) (Got := GotI w.heap.size) (own := ownI) (n0 := w.heap.size) (M0 := fun b => b = W1.heap.size ∨ b = w.heap.size + 1) HSEQ.out BIN.out.size (fun _ => rfl)
    (fun x W W' h hs hb => ⟨SlAt.ownB h.1 hs (fun b _ e => hb b e), h.2⟩)
    (fun xs W o' ⟨k, n, ov, h, h'⟩ => ⟨k, n, ov, h.on (World.putObj_heap_other (by omega)), h'⟩) (fun xs W o' ⟨n, h, h'⟩ => ⟨n, h.on (World.putObj_heap_other (by omega)), h'⟩)
    (fun pre M W => OutW w.heap.size W1.heap.size (w.heap.size + 1) most W pre M ∧ pre.length < most) (fun c pre M W => c = .exit 0 ∧ OutW w.heap.size W1.heap.size (w.heap.size + 1) most W pre M ∧ pre.length = most)
    (fun pre M W W' h hs hb => ⟨h.1.rest hs hb, h.2⟩) (fun c pre M W W' h hs hb => ⟨h.1, h.2.1.rest hs hb, h.2.2⟩) (fun pre M W h => h.1.lt) (fun c pre M W h => h.2.1.lt) ⟨I0.out, by simp; omega⟩
    (fun x => { tmps := #[.slice a0 ds.length c0, .slice a1 ps.length c1, .slice a2 vars.length c2, .agg #[.int .i64 o.sel, .int .i64 o.ord, .int .i64 o.br, .slice a3 o.ws.length c3], .int .i64 most, .int .i64 nodes, undef, undef, undef, .pointer (some ⟨w.heap.size, 0, none⟩), .pointer (some ⟨w.heap.size + 1, 0, none⟩), undef, .slice none 0 0, .int .i64 0, .pointer (some ⟨sb, 0, none⟩), .int .i64 0, .pointer (some ⟨W1.heap.size, 0, none⟩), x.1, .tuple #[.pointer (some ⟨sb, 0, none⟩), .int .i64 0], .slice a0 ds.length c0, .slice a1 ps.length c1, .slice a2 vars.length c2, .agg #[.int .i64 o.sel, .int .i64 o.ord, .int .i64 o.br, .slice a3 o.ws.length c3], .int .i64 most, .int .i64 nodes, .tuple #[.pointer (some ⟨sb, 0, none⟩), .int .i64 0], .pointer (some ⟨sb, 0, none⟩), .int .i64 0, .int .i64 0, .bool false, undef, .pointer (some ⟨sb, 0, none⟩), .slice a0 ds.length c0, .func (.func 42) #[] #[.pointer (some ⟨HS + 1, 0, none⟩), .pointer (some ⟨HS, 0, none⟩)], x.1, undef, undef, undef, undef, undef, undef, undef, undef, undef, undef, undef, undef, undef], defers := [] }) ?assign ?body ?done ?stop
  case assign =>
    intro l x W K hK
    gi_wp2
    exact hK
  case body =>
    rintro l pre M ⟨vx, xs⟩ W ⟨hO, hlen⟩ hx hown hsz
    obtain ⟨v, hc, hf, hrow, hvm, hel⟩ := hO.row
    have hx' : IsAt W vx xs := hx.1
    obtain ⟨ax, cx, rfl, _⟩ := SlAt.shape hx'
    obtain ⟨av, cv, rfl, _⟩ := (SlAt.of_own hrow).shape
    dsimp only
    have hmc := hO.mc
    have hob := hO.lt _ hO.mo
    have hbm := hO.lt _ hO.mb
    have hlo := hO.lo
    obtain ⟨t0, ht, hz0', hz1', hz2'⟩ := info_parts Tryz.infoInts
    have hxo : (Value.slice ax xs.length cx).oneCell' = true := rfl
    have hvob : (Value.slice av pre.length cv).ownBlock ≠ some W1.heap.size := fun e => by have := (own_lt hrow e).2; omega
    have hvbm : (Value.slice av pre.length cv).ownBlock ≠ some (w.heap.size + 1) := fun e => by have := (own_lt hrow e).2; omega
    have HO := Lib.hid hO
    have HX := Lib.hid hx
    have HOW := Lib.hid hown
    have HC := Lib.hid hc
    clear hel hvm hO hx hown hx'
    have hx1' : ∀ o', (W.alloc o').cell? ⟨w.heap.size + 1, 0, none⟩ = some (.int .i64 most) := fun o' => Lib.cell?_alloc_some o' hmc
    by_cases hm : pre.length + 1 = most
    · have hq : (((pre.length : Int) + 1) == (most : Int)) = true := by rw [← hm]; simp
      have HM := Lib.hid hm
      clear hm
      gi_wp2_with (gi_at_builtin; refine wpListIn_append_own_at _ rfl (.tmp 35) (.tmp 37) 32 rfl (W1.heap.size + 1) 26 t0 (.slice none 0 0) 1 24 Tryz.underlying32 ht hz0' hz1' hz2' rfl (by decide) (.slice av pre.length cv) pre.length (pre.map Prod.fst) rfl (hrow.alloc _) ⟨W.heap.size, 0, none⟩ 1 1 [.slice ax xs.length cx] rfl rfl (cell_one_new _ _ _) (one1 hxo) (by unfold maxLen; omega) (by omega) (by simp; omega) ?_; intro v' w1 r1 r2 r3 r4; obtain ⟨g, cap, rfl, _, _⟩ := r1.form (Nat.succ_pos _); have hw1 : (∀ b, b < W.heap.size → (Value.slice av pre.length cv).ownBlock ≠ some b → w1.heap[b]? = W.heap[b]?) := (fun b hb hne => (r2.block b (by simp; omega) (fun e => hne e.symm)).trans (Below.heap_alloc W _ b hb)); have k1 := (World.cell?_of_block (a := ⟨W1.heap.size, 0, none⟩) (hw1 _ hob hvob)).trans hc; have k1f := (World.frozen?_of_block (a := ⟨W1.heap.size, 0, none⟩) (hw1 _ hob hvob)).trans hf; have k2 : (∀ u, (w1.setCell ⟨W1.heap.size, 0, none⟩ u).cell? ⟨W1.heap.size, 0, none⟩ = some u) := (fun u => World.cell?_setCell_same _ _ _ k1); have k3 : (∀ u, (w1.setCell ⟨W1.heap.size, 0, none⟩ u).cell? ⟨w.heap.size + 1, 0, none⟩ = some (.int .i64 most)) := (fun u => (World.cell?_of_block (a := ⟨w.heap.size + 1, 0, none⟩) (((setCell_blk w1 ⟨W1.heap.size, 0, none⟩ u).2 _ (by dsimp only; omega)).trans (hw1 _ hbm hvbm))).trans hmc))
      obtain ⟨M', p1, p2, p3⟩ := OutW.push HO.out HC.out HX.out HOW.out r1 r2 r4
      exact ⟨M', p1, p2, rfl, p3, by rw [List.length_append]; exact HM.out⟩
    · have hq : (((pre.length : Int) + 1) == (most : Int)) = false := by simp; omega
      have HM := Lib.hid hm
      clear hm
      gi_wp2_with (gi_at_builtin; refine wpListIn_append_own_at _ rfl (.tmp 35) (.tmp 37) 32 rfl (W1.heap.size + 1) 26 t0 (.slice none 0 0) 1 24 Tryz.underlying32 ht hz0' hz1' hz2' rfl (by decide) (.slice av pre.length cv) pre.length (pre.map Prod.fst) rfl (hrow.alloc _) ⟨W.heap.size, 0, none⟩ 1 1 [.slice ax xs.length cx] rfl rfl (cell_one_new _ _ _) (one1 hxo) (by unfold maxLen; omega) (by omega) (by simp; omega) ?_; intro v' w1 r1 r2 r3 r4; obtain ⟨g, cap, rfl, _, _⟩ := r1.form (Nat.succ_pos _); have hw1 : (∀ b, b < W.heap.size → (Value.slice av pre.length cv).ownBlock ≠ some b → w1.heap[b]? = W.heap[b]?) := (fun b hb hne => (r2.block b (by simp; omega) (fun e => hne e.symm)).trans (Below.heap_alloc W _ b hb)); have k1 := (World.cell?_of_block (a := ⟨W1.heap.size, 0, none⟩) (hw1 _ hob hvob)).trans hc; have k1f := (World.frozen?_of_block (a := ⟨W1.heap.size, 0, none⟩) (hw1 _ hob hvob)).trans hf; have k2 : (∀ u, (w1.setCell ⟨W1.heap.size, 0, none⟩ u).cell? ⟨W1.heap.size, 0, none⟩ = some u) := (fun u => World.cell?_setCell_same _ _ _ k1); have k3 : (∀ u, (w1.setCell ⟨W1.heap.size, 0, none⟩ u).cell? ⟨w.heap.size + 1, 0, none⟩ = some (.int .i64 most)) := (fun u => (World.cell?_of_block (a := ⟨w.heap.size + 1, 0, none⟩) (((setCell_blk w1 ⟨W1.heap.size, 0, none⟩ u).2 _ (by dsimp only; omega)).trans (hw1 _ hbm hvbm))).trans hmc))
      obtain ⟨M', p1, p2, p3⟩ := OutW.push HO.out HC.out HX.out HOW.out r1 r2 r4
      exact ⟨M', p1, p2, p3, by rw [List.length_append]; have := HM.out; show pre.length + 1 < most; omega⟩
  case done =>
    rintro D xs M W ⟨k, n, ov, hs, _, hr⟩ ⟨hO, hlen⟩ hK hDl hDm hB
    have c7 := hs.c7
    have hr2 := hr (most - xs.length - 1)
    rw [show xs.length + (most - xs.length - 1 + 1) = most by omega] at hr2
    have hbo : Below w.heap.size w (W.putObj D (.deferred none)) := (BIN.out.trans hB).grown (grownBy_putObj' _ _ _) (by have := (BIN.out.trans hB).size; omega) (fun k e => by cases e; have := BIN.out.size; omega)
    have hO2 : OutW w.heap.size W1.heap.size (w.heap.size + 1) most (W.putObj D (.deferred none)) xs M := hO.rest (by simp) (fun b hm => World.putObj_heap_other (fun e => hDm (by rw [← e]; exact hm)))
    obtain ⟨ao, cap, hco, hls⟩ := hO2.ls
    have hx : W.cell? ⟨W1.heap.size, 0, none⟩ = some (.slice ao xs.length cap) := (World.cell?_of_block (a := ⟨W1.heap.size, 0, none⟩) (World.putObj_heap_other (w := W) (o := .deferred none) (fun e => hDm (by rw [← e]; exact hO.mo)))).symm.trans hco
    have HR2 := Lib.hid hr2
    have HBO := Lib.hid hbo
    have HLS := Lib.hid hls
    clear hr hr2 hbo hO hO2 hs hls hB
    cases ov with
    | true =>
      go_wp2
      refine ⟨by simp, .inl ⟨_, _, rfl, run_takeDeferred hK, ?_⟩⟩
      refine ⟨_, by simp [results, Tryz.results13, go_sem]; rfl, ?_⟩
      rw [HR2.out]
      exact ⟨HBO.out, .inl ⟨rfl, rfl⟩⟩
    | false =>
      go_wp2
      refine ⟨by simp, .inl ⟨_, _, rfl, run_takeDeferred hK, ?_⟩⟩
      refine ⟨_, by simp [results, Tryz.results13, go_sem]; rfl, ?_⟩
      rw [HR2.out]
      exact ⟨HBO.out, .inr ⟨rfl, ao, cap, by rw [List.length_map], by rw [List.length_map]; exact HLS.out⟩⟩
  case stop =>
    rintro D c pre M W ⟨n, hs, hr⟩ ⟨rfl, hO, hlen⟩ hK hDl hDm hB
    have c7 := hs.c7
    rw [hlen] at hr
    have hbo : Below w.heap.size w (W.putObj D (.deferred none)) := (BIN.out.trans hB).grown (grownBy_putObj' _ _ _) (by have := (BIN.out.trans hB).size; omega) (fun k e => by cases e; have := BIN.out.size; omega)
    have hO2 : OutW w.heap.size W1.heap.size (w.heap.size + 1) most (W.putObj D (.deferred none)) pre M := hO.rest (by simp) (fun b hm => World.putObj_heap_other (fun e => hDm (by rw [← e]; exact hm)))
    obtain ⟨ao, cap, hco, hls⟩ := hO2.ls
    have hx : W.cell? ⟨W1.heap.size, 0, none⟩ = some (.slice ao pre.length cap) := (World.cell?_of_block (a := ⟨W1.heap.size, 0, none⟩) (World.putObj_heap_other (w := W) (o := .deferred none) (fun e => hDm (by rw [← e]; exact hO.mo)))).symm.trans hco
    have HR2 := Lib.hid hr
    have HBO := Lib.hid hbo
    have HLS := Lib.hid hls
    clear hr hbo hO hO2 hs hls hB hlen
    refine wpIn_exit ?_
    go_wp2
    refine ⟨by simp, .inl ⟨_, _, rfl, run_takeDeferred hK, ?_⟩⟩
    refine ⟨_, by simp [results, Tryz.results13, go_sem]; rfl, ?_⟩
    rw [HR2.out]
    exact ⟨HBO.out, .inr ⟨rfl, ao, cap, by rw [List.length_map], by rw [List.length_map]; exact HLS.out⟩⟩
end Go.Proofs.YtaekdgikgbdnnaaGreat
namespace Go.Proofs.YtaekdgikgbdnnaaGreat

/-- x comes ahead of y, place by place -/
def lexLt (x y : List Int) : Prop := ∃ k, (∀ j, j < k → x.getD j 0 = y.getD j 0) ∧ x.getD k 0 < y.getD k 0
def inOrder (ord : Int) (x y : List Int) : Prop := if ord = 1 then lexLt y x else lexLt x y
theorem choose_left {ds : Ds} {vars ws : List Int} : ∀ {k b : Nat}, chooseL ds vars 0 ws k = some b → ∀ i, i < b → sizeL (norm (domAt ds (vars.getD i 0))) < 2
  | 0, b, h => by simp [chooseL] at h
  | k + 1, b, h => by
    unfold chooseL at h
    split at h
    · exact choose_left h
    · split at h
      · rename_i hb
        cases h
        exact choose_none hb
      · rename_i b' hb
        have hr : ¬ rankL 0 ws (domAt ds (vars.getD k 0)) k < rankL 0 ws (domAt ds (vars.getD b' 0)) b' := by simp [rankL]
        rw [if_neg hr] at h
        cases h
        exact choose_left hb
theorem split_order {d : List Rg} {ord br : Int} (hn : Normal d) (h : ¬ sizeL (norm d) < 2) {x y : Int} (hx : memL (splitL d ord br).1 x = true) (hy : memL (splitL d ord br).2 y = true) : if ord = 1 then y < x else x < y := by
  have hA : ∀ z c, memL (meetL d [((endsL (norm d)).1, c)]) z = true → z ≤ c := fun z c hz => by
    have h1 : memL (meetL d [((endsL (norm d)).1, c)]) z = (inD z && (memL d z && memL [((endsL (norm d)).1, c)] z)) := canon_mem _ _
    rw [h1, mem1] at hz
    simp at hz; omega
  have hB : ∀ z c, memL (minusL d [((endsL (norm d)).1, c)]) z = true → c < z := fun z c hz => by
    have h1 : memL (minusL d [((endsL (norm d)).1, c)]) z = (inD z && (memL d z && !memL [((endsL (norm d)).1, c)] z)) := canon_mem _ _
    rw [h1, Bool.and_eq_true, Bool.and_eq_true] at hz
    obtain ⟨_, hd, hm⟩ := hz
    have hle := (ends_mem d z (by rw [norm_of_normal hn]; exact hd)).1
    rw [mem1] at hm
    simp at hm
    omega
  unfold splitL at hx hy
  rw [if_neg h] at hx hy
  dsimp only at hx hy
  by_cases o1 : ord = 1
  · rw [if_pos o1] at hx hy ⊢
    have := hB _ _ hx
    have := hA _ _ hy
    omega
  · rw [if_neg o1] at hx hy ⊢
    have := hA _ _ hx
    have := hB _ _ hy
    omega
/-- of two parts of the leftmost variable all of the one's solutions stand ahead of the other's -/
theorem part_order {ps : List PL} {now : Ds} {k : Nat} {o : SOpt} (hn : AllN now) (hk : k < now.length) (h : ¬ sizeL (norm (now.getD k [])) < 2) (hleft : ∀ i, i < k → sizeL (norm (now.getD i [])) < 2) {x y : List Int} (hx : Sol ps (partAt now k o).1 x) (hy : Sol ps (partAt now k o).2 y) : inOrder o.ord x y := by
  obtain ⟨n1, n2⟩ := split_normal (now.getD k []) o.ord o.br
  have h1 := (has_set hk).1 hx.1
  have h2 := (has_set hk).1 hy.1
  have e1 : norm (splitL (now.getD k []) o.ord o.br).1 = (splitL (now.getD k []) o.ord o.br).1 := norm_of_normal n1
  have e2 : norm (splitL (now.getD k []) o.ord o.br).2 = (splitL (now.getD k []) o.ord o.br).2 := norm_of_normal n2
  have a1 := h1.2.2
  have a2 := h2.2.2
  rw [e1] at a1
  rw [e2] at a2
  have hlt := split_order (hn k) h a1 a2
  have hsame : ∀ j, j < k → x.getD j 0 = y.getD j 0 := fun j hj => by
    have b1 := h1.2.1 j (by omega) (by omega)
    have b2 := h2.2.1 j (by omega) (by omega)
    have e : norm (now.getD j []) = now.getD j [] := norm_of_normal (hn j)
    rw [e] at b1 b2
    have hs := single_set (hn j) (mem_ne_nil b1) (hleft j hj)
    rw [hs, one_mem, decide_eq_true_eq] at b1 b2
    rw [b1, b2]
  unfold inOrder
  by_cases o1 : o.ord = 1
  · rw [if_pos o1] at hlt ⊢
    exact ⟨k, fun j hj => (hsame j hj).symm, hlt⟩
  · rw [if_neg o1] at hlt ⊢
    exact ⟨k, hsame, hlt⟩
/-- from the leftmost variable on the answers stand in order -/
theorem find_order {ps : List PL} {n : Nat} {o : SOpt} (hg : ∀ p ∈ ps, p.Lin n) (ho : o.ord = 0 ∨ o.ord = 1) (hb : o.br = 0 ∨ o.br = 1) (hsel : o.sel = 0) : ∀ (fuel : Nat) (st : List Ds), (∀ D ∈ st, D.length = n) → (st.map nodesN).sum ≤ fuel →
    (st.Pairwise fun A B => ∀ x y, Sol ps A x → Sol ps B y → inOrder o.ord x y) → (find ps (allV n) o fuel st).1.Pairwise (inOrder o.ord)
  | 0, [], _, _, _ => List.Pairwise.nil
  | fuel + 1, [], _, _, _ => List.Pairwise.nil
  | 0, D :: st, _, hs, _ => by
    have := nodesN_pos D
    rw [List.map_cons, List.sum_cons] at hs
    omega
  | fuel + 1, D :: st, hl, hs, hp => by
    have hD : D.length = n := hl D List.mem_cons_self
    have hgD : ∀ p ∈ ps, p.Lin D.length := by rw [hD]; exact hg
    rw [List.map_cons, List.sum_cons] at hs
    have hpos := nodesN_pos D
    obtain ⟨R, hR⟩ := fixOf_exists (ps := ps) (D := D) (fun p hp => (hgD p hp).good)
    have hsol := fun x => sol_iff hgD hR x
    have hl' : ∀ E ∈ st, E.length = n := fun E hE => hl E (List.mem_cons_of_mem _ hE)
    obtain ⟨p1, p2⟩ := List.pairwise_cons.1 hp
    rw [find, theFix_eq hR]
    cases R with
    | none => exact find_order hg ho hb hsel fuel st hl' (by omega) p2
    | some now =>
      have hnl : now.length = n := hR.1.len.trans hD
      have hs2 : ∀ x, Sol ps D x ↔ Sol ps now x := fun x => by
        rw [hsol x]
        exact ⟨fun ⟨r, e, h⟩ => by cases e; exact h, fun h => ⟨now, rfl, h⟩⟩
      dsimp only
      cases hc : chooseL now (allV n) o.sel o.ws (allV n).length with
      | none =>
        have i3 := find_order hg ho hb hsel fuel st hl' (by omega) p2
        obtain ⟨_, i2, _⟩ := find_all hg ho hb fuel st hl' (by omega)
        have hleaf := leaf_sol (o := o) hg hD hR hc
        dsimp only
        refine List.pairwise_cons.2 ⟨fun y hy => ?_, i3⟩
        obtain ⟨E, hE, h⟩ := (i2 y).1 hy
        exact p1 E hE _ y ((hs2 _).2 ((hleaf _).2 rfl)) h
      | some k =>
        have hk : k < n := by have := chooseL_lt _ _ _ _ _ _ hc; rwa [allV_len] at this
        have hsz := choose_some hc
        rw [allV_at hk, domAt_nat] at hsz
        have hkv : ((allV n).getD k 0).toNat = k := by rw [allV_at hk, Int.toNat_natCast]
        have hleft : ∀ i, i < k → sizeL (norm (now.getD i [])) < 2 := fun i hi => by
          rw [hsel] at hc
          have := choose_left hc i hi
          rwa [allV_at (by omega), domAt_nat] at this
        dsimp only
        rw [hkv]
        have hparts := fun x => part_sol (ps := ps) (o := o) (by omega : k < now.length) hsz ho hb x
        have hnp := nodes_parts hR.1.nor hR.1.non (by omega : k < now.length) hsz ho hb (o := o)
        have hle : nodesN now ≤ nodesN D := nodesN_le (prodN_le hR.1.len (fun j x hx => by
          have := hR.1.sub j x hx
          rw [getD_map_norm, memL_norm, Bool.and_eq_true] at this
          exact this.2))
        have hin : ∀ x, (Sol ps (partAt now k o).1 x → Sol ps D x) ∧ (Sol ps (partAt now k o).2 x → Sol ps D x) := fun x => ⟨fun h => (hs2 x).2 ((hparts x).1.2 (.inl h)), fun h => (hs2 x).2 ((hparts x).1.2 (.inr h))⟩
        refine find_order hg ho hb hsel fuel ((partAt now k o).1 :: (partAt now k o).2 :: st) (fun E hE => by
          rcases List.mem_cons.1 hE with rfl | hE
          · show (now.set _ _).length = n; rw [List.length_set]; exact hnl
          · rcases List.mem_cons.1 hE with rfl | hE
            · show (now.set _ _).length = n; rw [List.length_set]; exact hnl
            · exact hl' E hE) (by rw [List.map_cons, List.map_cons, List.sum_cons, List.sum_cons]; omega) ?_
        refine List.pairwise_cons.2 ⟨fun E hE x y hx hy => ?_, List.pairwise_cons.2 ⟨fun E hE x y hx hy => ?_, p2⟩⟩
        · rcases List.mem_cons.1 hE with rfl | hE
          · exact part_order hR.1.nor (by omega) hsz hleft hx hy
          · exact p1 E hE x y ((hin x).1 hx) hy
        · exact p1 E hE x y ((hin x).2 hx) hy
end Go.Proofs.YtaekdgikgbdnnaaGreat
namespace Go.Proofs.YtaekdgikgbdnnaaGreat

/-- the integers of a set, rising -/
def listS (S : Int → Bool) : Nat → Int → List Int
  | 0, _ => []
  | k + 1, n => if S n = true then n :: listS S k (n + 1) else listS S k (n + 1)
theorem listS_len (S : Int → Bool) : ∀ (k : Nat) (n : Int), ((listS S k n).length : Int) = cnt S k n
  | 0, _ => rfl
  | k + 1, n => by
    have ih := listS_len S k (n + 1)
    unfold listS cnt
    split
    · rw [List.length_cons]; omega
    · omega
theorem listS_get (S : Int → Bool) : ∀ (k : Nat) (n : Int) (i : Nat), (listS S k n)[i]? = seek S k n i
  | 0, _, _ => rfl
  | k + 1, n, i => by
    have ih := listS_get S k (n + 1)
    unfold listS seek
    split
    · cases i with
      | zero => simp
      | succ i =>
        rw [List.getElem?_cons_succ, ih i, if_neg (by omega)]
        congr 1; omega
    · exact ih i
theorem listS_mem (S : Int → Bool) : ∀ (k : Nat) (n x : Int), x ∈ listS S k n ↔ n ≤ x ∧ x < n + k ∧ S x = true
  | 0, n, x => by simp [listS]; omega
  | k + 1, n, x => by
    have ih := listS_mem S k (n + 1) x
    unfold listS
    split
    · rename_i h
      rw [List.mem_cons, ih]
      constructor
      · rintro (rfl | ⟨a, b, c⟩)
        · exact ⟨Int.le_refl _, by omega, h⟩
        · exact ⟨by omega, by omega, c⟩
      · rintro ⟨a, b, c⟩
        by_cases e : x = n
        · exact .inl e
        · exact .inr ⟨by omega, by omega, c⟩
    · rename_i h
      rw [ih]
      constructor
      · rintro ⟨a, b, c⟩; exact ⟨by omega, by omega, c⟩
      · rintro ⟨a, b, c⟩
        by_cases e : x = n
        · subst e; exact absurd c h
        · exact ⟨by omega, by omega, c⟩
theorem listS_rise (S : Int → Bool) : ∀ (k : Nat) (n : Int), (listS S k n).Pairwise (· < ·)
  | 0, _ => List.Pairwise.nil
  | k + 1, n => by
    have ih := listS_rise S k (n + 1)
    unfold listS
    split
    · exact List.pairwise_cons.2 ⟨fun x hx => by have := ((listS_mem S k (n + 1) x).1 hx).1; omega, ih⟩
    · exact ih
/-- the integers of a domain -/
def valsL (d : List Rg) : List Int := listS (memL d) 401 (-200)
theorem valsL_len (d : List Rg) : ((valsL d).length : Int) = sizeL (norm d) := by
  unfold valsL norm; rw [listS_len, sizeL_canon]
theorem valsL_at (d : List Rg) (i : Nat) : atL (norm d) i = (valsL d)[i]? := by
  unfold valsL norm; rw [listS_get, atL_canon _ _ (by omega)]
theorem valsL_mem (d : List Rg) (x : Int) : x ∈ valsL d ↔ memL (norm d) x = true := by
  unfold valsL
  rw [listS_mem, memL_norm]
  unfold inD
  simp only [Bool.and_eq_true, decide_eq_true_eq]
  constructor
  · rintro ⟨a, b, c⟩; exact ⟨⟨by omega, by omega⟩, c⟩
  · rintro ⟨⟨a, b⟩, c⟩; exact ⟨by omega, by omega, c⟩
/-- each list, longer by each value -/
def prodStep (X : List (List Int)) (d : List Rg) : List (List Int) := X.flatMap (fun x => (valsL d).map (fun v => x ++ [v]))
def prodL (D : Ds) : List (List Int) := D.foldl prodStep [[]]
def everyL (D : Ds) (ps : List PL) : List (List Int) := (prodL D).filter (allHold ps)
theorem prodL_snoc (D : Ds) (d : List Rg) : prodL (D ++ [d]) = prodStep (prodL D) d := by unfold prodL; rw [List.foldl_append]; rfl
theorem prodL_mem : ∀ (n : Nat) (D : Ds), D.length = n → ∀ x, x ∈ prodL D ↔ Has (D.map norm) x
  | 0, D, h, x => by
    obtain rfl := List.eq_nil_of_length_eq_zero h
    unfold prodL Has
    simp
  | n + 1, D, h, x => by
    have hne : D ≠ [] := by rintro rfl; simp at h
    obtain ⟨E, d, rfl⟩ : ∃ E d, D = E ++ [d] := ⟨D.dropLast, D.getLast hne, (List.dropLast_concat_getLast hne).symm⟩
    have hE : E.length = n := by simpa using h
    have ih := prodL_mem n E hE
    rw [prodL_snoc]
    unfold prodStep
    rw [List.mem_flatMap]
    constructor
    · rintro ⟨y, hy, hx⟩
      obtain ⟨v, hv, rfl⟩ := List.mem_map.1 hx
      obtain ⟨h1, h2⟩ := (ih y).1 hy
      rw [List.length_map] at h1 h2
      refine ⟨by simp [h1], fun j hj => ?_⟩
      rw [List.length_map, List.length_append, List.length_singleton] at hj
      rw [getD_map_norm, List.getD_eq_getElem?_getD, List.getD_eq_getElem?_getD]
      by_cases hjl : j < E.length
      · have := h2 j hjl
        rw [getD_map_norm, List.getD_eq_getElem?_getD, List.getD_eq_getElem?_getD] at this
        rw [List.getElem?_append_left hjl, List.getElem?_append_left (by omega)]; exact this
      · obtain rfl : j = E.length := by omega
        rw [List.getElem?_append_right (Nat.le_refl _), List.getElem?_append_right (by omega), h1]
        simp
        exact (valsL_mem d v).1 hv
    · rintro ⟨h1, h2⟩
      rw [List.length_map, List.length_append, List.length_singleton] at h1 h2
      have hxn : x ≠ [] := by rintro rfl; simp at h1
      obtain ⟨y, v, rfl⟩ : ∃ y v, x = y ++ [v] := ⟨x.dropLast, x.getLast hxn, (List.dropLast_concat_getLast hxn).symm⟩
      have hy : y.length = E.length := by simpa using h1
      refine ⟨y, (ih y).2 ⟨by rw [List.length_map]; exact hy, fun j hj => ?_⟩, List.mem_map.2 ⟨v, ?_, rfl⟩⟩
      · rw [List.length_map] at hj
        have := h2 j (by omega)
        rw [getD_map_norm, List.getD_eq_getElem?_getD, List.getD_eq_getElem?_getD, List.getElem?_append_left hj, List.getElem?_append_left (by omega)] at this
        rw [getD_map_norm, List.getD_eq_getElem?_getD, List.getD_eq_getElem?_getD]; exact this
      · have := h2 E.length (by omega)
        rw [getD_map_norm, List.getD_eq_getElem?_getD, List.getD_eq_getElem?_getD, List.getElem?_append_right (Nat.le_refl _), List.getElem?_append_right (by omega), hy] at this
        simp at this
        exact (valsL_mem d v).2 this
theorem lexLt_snoc {x : List Int} {v w : Int} (h : v < w) : lexLt (x ++ [v]) (x ++ [w]) :=
  ⟨x.length, fun j hj => by rw [List.getD_eq_getElem?_getD, List.getD_eq_getElem?_getD, List.getElem?_append_left hj, List.getElem?_append_left hj], by
    rw [List.getD_eq_getElem?_getD, List.getD_eq_getElem?_getD, List.getElem?_append_right (Nat.le_refl _), List.getElem?_append_right (Nat.le_refl _)]; simpa using h⟩
theorem lexLt_append {x y : List Int} (hl : x.length = y.length) (h : lexLt x y) (a b : List Int) : lexLt (x ++ a) (y ++ b) := by
  obtain ⟨k, h1, h2⟩ := h
  have hk : k < x.length := by
    apply Classical.byContradiction
    intro hn
    rw [List.getD_eq_getElem?_getD, List.getD_eq_getElem?_getD, List.getElem?_eq_none (by omega), List.getElem?_eq_none (by omega)] at h2
    simp at h2
  have e : ∀ (z c : List Int) (j : Nat), j < z.length → (z ++ c).getD j 0 = z.getD j 0 := fun z c j hj => by
    rw [List.getD_eq_getElem?_getD, List.getD_eq_getElem?_getD, List.getElem?_append_left hj]
  exact ⟨k, fun j hj => by rw [e x a j (by omega), e y b j (by omega)]; exact h1 j hj, by rw [e x a k hk, e y b k (by omega)]; exact h2⟩
theorem prodL_len : ∀ (n : Nat) (D : Ds), D.length = n → ∀ x ∈ prodL D, x.length = D.length := fun n D h x hx => by
  have := ((prodL_mem n D h x).1 hx).1
  rwa [List.length_map] at this
theorem prodL_order : ∀ (n : Nat) (D : Ds), D.length = n → (prodL D).Pairwise lexLt
  | 0, D, h => by
    obtain rfl := List.eq_nil_of_length_eq_zero h
    exact List.pairwise_singleton _ _
  | n + 1, D, h => by
    have hne : D ≠ [] := by rintro rfl; simp at h
    obtain ⟨E, d, rfl⟩ : ∃ E d, D = E ++ [d] := ⟨D.dropLast, D.getLast hne, (List.dropLast_concat_getLast hne).symm⟩
    have hE : E.length = n := by simpa using h
    have ih := prodL_order n E hE
    have hlen := prodL_len n E hE
    rw [prodL_snoc]
    unfold prodStep
    generalize prodL E = X at ih hlen
    induction X with
    | nil => exact List.Pairwise.nil
    | cons x X ihx =>
      obtain ⟨p1, p2⟩ := List.pairwise_cons.1 ih
      rw [List.flatMap_cons]
      refine List.pairwise_append.2 ⟨?_, ihx p2 (fun y hy => hlen y (List.mem_cons_of_mem _ hy)), ?_⟩
      · rw [List.pairwise_map]
        exact (listS_rise (memL d) 401 (-200)).imp (fun h => lexLt_snoc h)
      · intro a ha b hb
        obtain ⟨v, _, rfl⟩ := List.mem_map.1 ha
        obtain ⟨y, hy, hb⟩ := List.mem_flatMap.1 hb
        obtain ⟨w, _, rfl⟩ := List.mem_map.1 hb
        exact lexLt_append (by rw [hlen x List.mem_cons_self, hlen y (List.mem_cons_of_mem _ hy)]) (p1 y hy) _ _
theorem lexLt_irrefl (x : List Int) : ¬ lexLt x x := fun ⟨_, _, h⟩ => by omega
theorem lexLt_asym {x y : List Int} (h : lexLt x y) (g : lexLt y x) : False := by
  obtain ⟨k, h1, h2⟩ := h
  obtain ⟨m, g1, g2⟩ := g
  rcases Nat.lt_trichotomy k m with e | e | e
  · have := g1 k e; omega
  · subst e; omega
  · have := h1 m e; omega
/-- two lists in order with the same members are the same -/
theorem order_unique : ∀ {l m : List (List Int)}, l.Pairwise lexLt → m.Pairwise lexLt → (∀ x, x ∈ l ↔ x ∈ m) → l = m
  | [], [], _, _, _ => rfl
  | [], y :: m, _, _, h => by have := (h y).2 List.mem_cons_self; simp at this
  | x :: l, [], _, _, h => by have := (h x).1 List.mem_cons_self; simp at this
  | x :: l, y :: m, hl, hm, h => by
    obtain ⟨a1, a2⟩ := List.pairwise_cons.1 hl
    obtain ⟨b1, b2⟩ := List.pairwise_cons.1 hm
    have hxy : x = y := by
      rcases List.mem_cons.1 ((h x).1 List.mem_cons_self) with e | e
      · exact e
      · rcases List.mem_cons.1 ((h y).2 List.mem_cons_self) with e' | e'
        · exact e'.symm
        · exact (lexLt_asym (a1 y e') (b1 x e)).elim
    subst hxy
    have : l = m := order_unique a2 b2 (fun z => by
      constructor
      · intro hz
        rcases List.mem_cons.1 ((h z).1 (List.mem_cons_of_mem _ hz)) with e | e
        · subst e; exact (lexLt_irrefl _ (a1 _ hz)).elim
        · exact e
      · intro hz
        rcases List.mem_cons.1 ((h z).2 (List.mem_cons_of_mem _ hz)) with e | e
        · subst e; exact (lexLt_irrefl _ (b1 _ hz)).elim
        · exact e)
    rw [this]
theorem every_mem (D : Ds) (ps : List PL) (x : List Int) : x ∈ everyL D ps ↔ Sol ps D x := by
  unfold everyL Sol
  rw [List.mem_filter, prodL_mem _ D rfl, allHold_iff]
theorem every_order (D : Ds) (ps : List PL) : (everyL D ps).Pairwise lexLt := (prodL_order _ D rfl).sublist List.filter_sublist
theorem every_nodup (D : Ds) (ps : List PL) : (everyL D ps).Nodup := (every_order D ps).imp (fun h e => by subst e; exact lexLt_irrefl _ h)
end Go.Proofs.YtaekdgikgbdnnaaGreat
