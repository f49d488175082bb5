/-
  index.Named, walked.
  coneyref12.Named and coneyref12.Which, walked.
  coneyref12.Which, walked.
  IndexFacts: what its loop holds on to.
-/
import Derived.Test.YtmffobadnmkpbaaKidx2
import Derived.Test.YtmffobadnmkpbaaKtm2
namespace Go.Proofs.Ytmffobadnmkpbaa
open Go.RowKit

def outN (pre : List (Nat × Tm × Option Addr × Nat)) : List Int := pre.map fun x => (x.1 : Int)
/-- what the loop has gathered in box ob -/
structure OutN (n0 ob : Nat) (W : World) (pre : List (Nat × Tm × Option Addr × Nat)) (M : Nat → Prop) : Prop where
  row : ∃ v, W.cell? ⟨ob, 0, none⟩ = some v ∧ W.frozen? ⟨ob, 0, none⟩ = false ∧ W.ownsRow (ob + 1) 3 1 v (outN pre).length ((outN pre).map (Value.int .i64)) ∧ ∀ b, v.ownBlock = some b → M b
  mo : M ob
  lo : ∀ b, M b → n0 ≤ b
  lt : ∀ b, M b → b < W.heap.size
theorem OutN.rest {n0 ob : Nat} {W W' : World} {pre : List (Nat × Tm × Option Addr × Nat)} {M : Nat → Prop} (h : OutN n0 ob W pre M) (hs : W.heap.size ≤ W'.heap.size) (hb : ∀ b, M b → W'.heap[b]? = W.heap[b]?) : OutN n0 ob W' pre M := by
  obtain ⟨v, c, f, o, hm⟩ := h.row
  have cc : ∀ {b o' : Nat} {x : Value}, M b → W.cell? ⟨b, o', none⟩ = some x → W'.cell? ⟨b, o', none⟩ = some x := fun {b o' x} hm hx => (World.cell?_of_block (a := ⟨b, o', none⟩) (hb b hm)).trans hx
  refine ⟨⟨v, cc h.mo c, (World.frozen?_of_block (a := ⟨ob, 0, none⟩) (hb _ h.mo)).trans f, ⟨o.1, ?_⟩, hm⟩, h.mo, h.lo, fun b hb' => Nat.lt_of_lt_of_le (h.lt b hb') hs⟩
  rcases o.2 with hn | ⟨g', cap, cur, e, h1, h2, r⟩
  · exact .inl hn
  · exact .inr ⟨g', cap, cur, e, h1, (hb g' (hm g' (by rw [e]; rfl))).trans h2, r⟩
theorem OutN.push {n0 ob : Nat} {W w1 : World} {pre : List (Nat × Tm × Option Addr × Nat)} {M : Nat → Prop} {v : Value} (h : OutN n0 ob W pre M) (hc : W.cell? ⟨ob, 0, none⟩ = some v)
    {x : Nat × Tm × Option Addr × Nat} {T : TypeId} {g7 cap : Nat}
    (ho : w1.ownsRow (ob + 1) 3 1 (.slice (some ⟨g7, 0, none⟩) ((outN pre).length + 1) cap) ((outN pre).length + 1) ((outN pre).map (Value.int .i64) ++ [.int .i64 x.1])) (hg : (W.alloc (.cells #[.int .i64 x.1] T)).grownBy w1 v.ownBlock)
    (hl : (Value.slice (some ⟨g7, 0, none⟩) ((outN pre).length + 1) cap).ownBlock = v.ownBlock ∨ (Value.slice (some ⟨g7, 0, none⟩) ((outN pre).length + 1) cap).ownBlock = some (W.alloc (.cells #[.int .i64 x.1] T)).heap.size) :
    ∃ M' : Nat → Prop, (∀ b, M' b → M b ∨ W.heap.size ≤ b) ∧ Agr M W (w1.setCell ⟨ob, 0, none⟩ (.slice (some ⟨g7, 0, none⟩) ((outN pre).length + 1) cap)) ∧
      OutN n0 ob (w1.setCell ⟨ob, 0, none⟩ (.slice (some ⟨g7, 0, none⟩) ((outN pre).length + 1) cap)) (pre ++ [x]) M' := by
  obtain ⟨v0, h1, h2, h3, h4⟩ := h.row
  rw [hc] at h1
  injection h1 with h1
  subst h1
  have hsz : (W.alloc (.cells #[.int .i64 x.1] T)).heap.size = W.heap.size + 1 := by simp
  have hs1 : W.heap.size + 1 ≤ w1.heap.size := by rw [← hsz]; exact hg.size
  obtain ⟨hsS, hbS⟩ := setBlk w1 ⟨ob, 0, none⟩ (.slice (some ⟨g7, 0, none⟩) ((outN pre).length + 1) cap)
  have hob := h.lt ob h.mo
  have hw1 : ∀ b, b < W.heap.size → v.ownBlock ≠ some b → w1.heap[b]? = W.heap[b]? := fun b hb hne => (hg.block b (by omega) (fun e => hne e.symm)).trans (Below.heap_alloc W _ b hb)
  have hg' : v.ownBlock = some g7 ∨ W.heap.size ≤ g7 := by
    rcases hl with e | e
    · exact .inl e.symm
    · right
      have : some g7 = some (W.alloc (.cells #[.int .i64 x.1] T)).heap.size := e
      injection this with this
      omega
  have hgob : ob + 1 ≤ g7 := (ho.lt g7 rfl).1
  have hglt : g7 < w1.heap.size := (ho.lt g7 rfl).2
  have hvob : v.ownBlock ≠ some ob := fun e => by have := (h3.lt ob e).1; omega
  refine ⟨fun b => M b ∨ b = g7, fun b hb => ?_, ⟨?_, fun b hb hn => ?_⟩, ?_⟩
  · rcases hb with e | rfl
    · exact .inl e
    · rcases hg' with e | e
      · exact .inl (h4 b e)
      · exact .inr e
  · exact (((Below.refl 0 W).alloc (Nat.zero_le _) _).grown hg (Nat.zero_le _) (fun _ _ => Nat.zero_le _)).setCell (p := ⟨ob, 0, none⟩) (Nat.zero_le _) _
  · exact (hbS b (fun e => hn (by dsimp only at e; rw [e]; exact h.mo))).trans (hw1 b hb (fun e => hn (h4 b e)))
  · refine ⟨⟨_, World.cell?_setCell_same _ _ _ (u := v) ((World.cell?_of_block (a := ⟨ob, 0, none⟩) (hw1 ob hob hvob)).trans hc), ?_, ?_, fun b e => ?_⟩, .inl h.mo, fun b hb => ?_, fun b hb => ?_⟩
    · rw [World.frozen?_setCell]; exact (World.frozen?_of_block (a := ⟨ob, 0, none⟩) (hw1 ob hob hvob)).trans h2
    · unfold outN at ho ⊢
      rw [List.map_append, List.length_append, List.map_append]
      exact own_blkI ho (fun b e => hbS b (fun e' => by
        have : some g7 = some b := e
        injection this with this
        dsimp only at e'; omega))
    · have : some g7 = some b := e
      injection this with this
      subst this
      exact .inr rfl
    · rcases hb with hb | rfl
      · exact h.lo b hb
      · rcases hg' with e | e
        · exact h.lo _ (h4 _ e)
        · have := h.lo _ h.mo; omega
    · rw [hsS]
      rcases hb with hb | rfl
      · have := h.lt b hb; omega
      · exact hglt
attribute [local go_sem] Oper.semAt_some
set_option maxRecDepth 1000000 in
set_option maxHeartbeats 6400000 in
theorem indexNamed_c (vh : Value) (H : List Tm) (nm : ByteArray) (n : Int) (w : World) (hh : TsAt (fun _ => True) w vh H) (hl : H.length ≤ 4096) :
    Calls Try.prog 53 #[vh, .string nm, .int .i64 n] w (RetWhich ((namedTo H nm n H.length).map (fun (i : Nat) => (i : Int))) w) := by
  obtain ⟨ao, cap, rfl, _⟩ := hh.shape
  obtain ⟨W2, hW2⟩ : ∃ W2, W2 = w.alloc (.cells #[.slice none 0 0] 29) := ⟨_, rfl⟩
  have B2 : Hid (Below w.heap.size w W2) := by rw [hW2]; exact (Below.refl _ _).alloc (Nat.le_refl _) _
  have Y2 : Hid (BoxL W2 w.heap.size [.slice none 0 0]) := by rw [hW2]; exact BoxL.mk' w #[.slice none 0 0] 29
  have hs2 : Hid (W2.heap.size = w.heap.size + 1) := by show _ = _; rw [hW2]; simp
  have HH := Lib.hid hh
  have HWE := Lib.hid hW2
  have CNd : Hid (Calls Try.prog 86 #[.slice ao H.length cap, .string nm, .int .i64 n] W2 fun e w' => e = .returned (.func (.func 114) #[] #[.pointer (some ⟨W2.heap.size, 0, none⟩), .pointer (some ⟨W2.heap.size + 1, 0, none⟩), .pointer (some ⟨W2.heap.size + 1 + 1, 0, none⟩)]) ∧
      (w'.cell? ⟨W2.heap.size, 0, none⟩ = some (.slice ao H.length cap) ∧ w'.cell? ⟨W2.heap.size + 1, 0, none⟩ = some (.string nm) ∧ w'.cell? ⟨W2.heap.size + 1 + 1, 0, none⟩ = some (.int .i64 n)) ∧ Below W2.heap.size W2 w' ∧ w'.heap.size = W2.heap.size + 3) := named_c _ _ _ _ _ W2
  obtain ⟨HS, hHS⟩ : ∃ HS, HS = W2.heap.size := ⟨_, rfl⟩
  rw [← hHS] at CNd
  have HH2 := Lib.hid hHS
  clear hh hW2 hHS
  refine (callsIn_wide (n := 3)).1 (callsIn_of_wp_marks Try.func53 rfl trivial ?_ rfl)
  refine wpIn_wide.2 ?_
  simp only [Try.ntmps53, List.size_toArray, List.length_cons, List.length_nil, Nat.reduceAdd, Nat.reduceSub, Array.replicate_succ, Array.replicate_zero, List.push_toArray, List.append_toArray, List.nil_append, List.cons_append]
  go_upto_region 2 with fail
  rw [← HWE.out]
  go_wp2_with (go_at_call 86; (with_reducible refine CNd.out.mono ?_); rintro e W3 ⟨rfl, ⟨c0, c1, c2⟩, b3, s3⟩; have C3 := Lib.hid c0; have C4 := Lib.hid c1; have C5 := Lib.hid c2; have B3 := Lib.hid b3; have S3 := Lib.hid s3; clear c0 c1 c2 b3 s3)
  refine (wpIn_wide (n := 3)).1 ?_
  have hs3 : W3.heap.size = HS + 3 := S3.out
  have B3' : Hid (Below W2.heap.size W2 W3) := by rw [← HH2.out]; exact B3.out
  have hs2w : W2.heap.size = w.heap.size + 1 := hs2.out
  have hhs : HS = w.heap.size + 1 := HH2.out.trans hs2.out
  have BIN : Hid (Below w.heap.size w W3) := B2.out.trans (B3'.out.mono B2.out.size)
  have Y3 := Lib.hid (Y2.out.below B3'.out (by omega))
  have I0 : Hid (OutN w.heap.size w.heap.size W3 [] (fun b => b = w.heap.size)) :=
    ⟨⟨_, (Y3.out.get 0 rfl).1, (Y3.out.get 0 rfl).2, World.ownsRow_nil _ _ _ _, fun b e => (by cases e)⟩, rfl, fun b hb => by rcases hb with rfl <;> omega, fun b hb => by rcases hb with rfl <;> omega⟩
  have HSEQ : Hid (∀ W', Below W3.heap.size W3 W' → W'.heap.size = W3.heap.size + 2 → SeqL Fence.wide 2 Try.prog 114 #[.pointer (some ⟨HS, 0, none⟩), .pointer (some ⟨HS + 1, 0, none⟩), .pointer (some ⟨HS + 1 + 1, 0, none⟩)] encH (GotH w H nm n) ownH w.heap.size (DoneH H nm n) StopH (fun b => b = w.heap.size ∨ b = W3.heap.size ∨ b = W3.heap.size + 1) W') := fun W' hb hs =>
    named_seq w W' HS (HS + 1) (HS + 1 + 1) (.slice ao H.length cap) H nm n _ ⟨HH.out, hl, BIN.out.trans (hb.mono BIN.out.size), (hb.cell (p := ⟨HS, 0, none⟩) (by dsimp only; omega)).trans C3.out, (hb.cell (p := ⟨HS + 1, 0, none⟩) (by dsimp only; omega)).trans C4.out, (hb.cell (p := ⟨HS + 1 + 1, 0, none⟩) (by dsimp only; omega)).trans C5.out, (by omega), (by omega), (by omega), (fun b e => by omega)⟩ 2
  clear hhs hs3 hs2w B3 S3 C3 C4 C5 Y2 Y3 CNd
  refine wpIn_rangeFunc_L rfl (by decide) (gf := 114) (lb := #[.pointer (some ⟨HS, 0, none⟩), .pointer (some ⟨HS + 1, 0, none⟩), .pointer (some ⟨HS + 1 + 1, 0, none⟩)]) rfl trivial (enters_of Try.func114 (by kernel_rfl) rfl)
    (encs := encH) (Got := GotH w H nm n) (own := ownH) (n0 := w.heap.size) (M0 := fun b => b = w.heap.size) HSEQ.out BIN.out.size (fun _ => rfl)
    (fun pre x W W' h _ _ => h) (fun xs W o' h => h) (fun xs W o' h => h)
    (fun pre M W => OutN w.heap.size w.heap.size W pre M) (fun _ _ _ _ => False)
    (fun pre M W W' h hs hb => h.rest hs hb) (fun c pre M W W' h hs hb => h) (fun pre M W h => h.lt) (fun c pre M W h => h.elim) I0.out
    (fun x W => { tmps := #[.slice ao H.length cap, .string nm, .int .i64 n, undef, undef, undef, .slice none 0 0, .pointer (some ⟨w.heap.size, 0, none⟩), .int .i64 (x.1 : Nat), .slice ao H.length cap, .string nm, .int .i64 n, .func (.func 114) #[] #[.pointer (some ⟨HS, 0, none⟩), .pointer (some ⟨HS + 1, 0, none⟩), .pointer (some ⟨HS + 1 + 1, 0, none⟩)], .int .i64 (x.1 : Nat), .agg #[.int .i64 x.2.1.kind, .int .i64 x.2.1.num, .string x.2.1.name, .slice x.2.2.1 x.2.1.args.length x.2.2.2], undef, undef, undef, undef, undef], defers := [] })
    (fun x W => W) (fun x W => Below.refl _ _) (fun x Wy W => True) (fun x W o hlt => trivial) ?assign ?body ?done ?stop
  case assign =>
    intro l x W K hK
    dsimp only [encH]
    gi_wp2
    exact hK
  case body =>
    rintro l pre M ⟨i, t, pt, q1⟩ Wy W hLd hO ⟨hxp, hxi, hxh, hxt⟩ hown hsz hB
    dsimp only at hxi hxp
    have hiH : i < H.length := (List.getElem?_eq_some_iff.1 hxi).1
    have hpl : pre.length ≤ 4096 := by have h1 := congrArg List.length hxp; rw [List.length_map] at h1; have h2 := namedTo_len H nm n i; omega
    have hol : (outN pre).length ≤ 4096 := by unfold outN; rw [List.length_map]; exact hpl
    obtain ⟨vo, hc, hf, hrow, hvm⟩ := hO.row
    obtain ⟨av, cvv, rfl, _⟩ := (SlAt.of_own hrow).shape
    obtain ⟨t0, ht, hz0', hz1', hz2'⟩ := info_parts Try.infoInt
    have hob := hO.lt _ hO.mo
    have hvob : (Value.slice av (outN pre).length cvv).ownBlock ≠ some w.heap.size := fun e => by have := (hrow.lt _ e).1; omega
    have HC := Lib.hid hc
    have HO := Lib.hid hO
    clear hvm hO hxp hxi hxh hxt hown hB hLd
    dsimp only
    gi_wp2_with (gi_at_builtin; refine wpListIn_append_own_at _ rfl (.tmp 15) (.tmp 17) 29 rfl (w.heap.size + 1) 3 t0 (.int .i64 0) 1 8 Try.underlying29 ht hz0' hz1' hz2' rfl (by decide) (.slice av (outN pre).length cvv) (outN pre).length ((outN pre).map (Value.int .i64)) rfl (hrow.alloc _) ⟨W.heap.size, 0, none⟩ 1 1 [.int .i64 i] rfl rfl (cell_one_new _ _ _) (one1 rfl) (by unfold maxLen; omega) (by omega) (by simp; omega) ?_; intro v' w1 r1 r2 r3 r4; obtain ⟨g7, cap7, rfl, _, _⟩ := r1.form (Nat.succ_pos _); have hw1 : (∀ b, b < W.heap.size → (Value.slice av (outN pre).length cvv).ownBlock ≠ some b → w1.heap[b]? = W.heap[b]?) := (fun b hb hne => (r2.block b (by simp; omega) (fun e => hne e.symm)).trans (Below.heap_alloc W _ b hb)); have k1 := (World.cell?_of_block (a := ⟨w.heap.size, 0, none⟩) (hw1 _ hob hvob)).trans hc; have k1f := (World.frozen?_of_block (a := ⟨w.heap.size, 0, none⟩) (hw1 _ hob hvob)).trans hf; have k2 : (∀ u, (w1.setCell ⟨w.heap.size, 0, none⟩ u).cell? ⟨w.heap.size, 0, none⟩ = some u) := (fun u => World.cell?_setCell_same _ _ _ k1))
    obtain ⟨M', p1, p2, p3⟩ := OutN.push (x := (i, t, pt, q1)) HO.out HC.out r1 r2 r4
    exact ⟨M', fun b hb => (p1 b hb).elim (fun h => .inl (.inl h)) (fun h => .inr h), ⟨p2.1, fun b hb hn => p2.2 b hb (fun h => hn (.inl h))⟩, p3⟩
  case done =>
    rintro D xs M W hd hO hK hDl hDm hB
    have hbo : Below w.heap.size w (W.putObj D (.deferred none)) := (BIN.out.trans hB).grown (grownBy_putObj' _ _ _) (by have := (BIN.out.trans hB).size; omega) (fun k e => by cases e; have := BIN.out.size; omega)
    have hO2 : OutN w.heap.size w.heap.size (W.putObj D (.deferred none)) xs M := hO.rest (by simp) (fun b hm => World.putObj_heap_other (fun e => hDm (by rw [← e]; exact hm)))
    obtain ⟨vo, hco, _, hro, _⟩ := hO2.row
    obtain ⟨ao', cap', rfl, _⟩ := (SlAt.of_own hro).shape
    have hx : W.cell? ⟨w.heap.size, 0, none⟩ = some (.slice ao' (outN xs).length cap') := (World.cell?_of_block (a := ⟨w.heap.size, 0, none⟩) (World.putObj_heap_other (w := W) (o := .deferred none) (fun e => hDm (by rw [← e]; exact hO.mo)))).symm.trans hco
    have HE : Hid (outN xs = (namedTo H nm n H.length).map (fun (i : Nat) => (i : Int))) := by show _ = _; rw [← (show xs.map Prod.fst = namedTo H nm n H.length from hd)]; unfold outN; rw [List.map_map]; rfl
    have HLS := Lib.hid (SlAt.of_own hro)
    have HBO := Lib.hid hbo
    clear hO hO2 hro hbo hB hd
    go_wp2
    refine ⟨by simp, .inl ⟨_, _, rfl, run_takeDeferred hK, ?_⟩⟩
    refine ⟨_, by simp [results, Try.results53, go_sem]; rfl, ?_⟩
    rw [← HE.out]
    exact ⟨_, _, rfl, HLS.out, HBO.out⟩
  case stop =>
    rintro D c pre M W _ hO
    exact hO.elim
end Go.Proofs.Ytmffobadnmkpbaa
namespace Go.Proofs.Ytmffobadnmkpbaa
open Go.RowKit

theorem headOf_isR (t : Tm) (nm : ByteArray) (n : Int) : isR t nm n = headOf nm n t := by unfold isR headOf; rw [Bool.and_assoc]
def namedZ (H : List Tm) (nm : ByteArray) (n : Int) (k : Nat) : List Int := (namedTo H nm n k).map fun (i : Nat) => (i : Int)
theorem namedZ_len (H : List Tm) (nm : ByteArray) (n : Int) (k : Nat) : (namedZ H nm n k).length ≤ k := by unfold namedZ; rw [List.length_map]; exact namedTo_len H nm n k
theorem namedZ_step (H : List Tm) (nm : ByteArray) (n : Int) (k : Nat) (hk : k < H.length) : namedZ H nm n (k + 1) = namedZ H nm n k ++ (if headOf nm n H[k] then [(k : Int)] else []) := by
  unfold namedZ; rw [namedTo_step H nm n k hk, List.map_append]; cases headOf nm n H[k] <;> rfl
theorem own_madeI (w : World) : (w.alloc (.cells #[] 3)).ownsRow w.heap.size 3 1 (.slice (some ⟨w.heap.size, 0, none⟩) 0 0) 0 [] :=
  World.ownsRow_made (base := w.heap.size) (size := 1) (e := 3) w #[] 0 (by simp) (by decide) rfl
/-- a list of integers in new memory of its own -/
def RetOwnI (L : List Int) (w : World) (e : Ending) (w' : World) : Prop := ∃ ao cap, e = .returned (.slice ao L.length cap) ∧ w'.ownsRow w.heap.size 3 1 (.slice ao L.length cap) L.length (L.map (Value.int .i64)) ∧ Below w.heap.size w w'
theorem RetOwnI.which {L : List Int} {w : World} {e : Ending} {w' : World} (h : RetOwnI L w e w') : RetWhich L w e w' := by
  obtain ⟨ao, cap, rfl, h1, h2⟩ := h; exact ⟨ao, cap, rfl, SlAt.of_own h1, h2⟩
set_option maxRecDepth 1000000 in
set_option maxHeartbeats 6400000 in
theorem refNamed_c (vh : Value) (H : List Tm) (nm : ByteArray) (n : Int) (w : World) (hh : TsAt (fun _ => True) w vh H) (hl : H.length ≤ 4096) :
    Calls Try.prog 87 #[vh, .string nm, .int .i64 n] w (RetOwnI (namedZ H nm n H.length) w) := by
  obtain ⟨ao, cap, rfl, _⟩ := hh.shape
  obtain ⟨i0, hi, hz0, hz1, hz2⟩ := info_parts Try.infoInt
  have HH := Lib.hid hh
  have HB0 := Lib.hid (below_one w (.cells #[] 3))
  clear hh
  go_enter Try.func87, Try.ntmps87
  go_wp2
  go_loopg [7, 8] H.length (fun f o s wr => ∃ (k : Nat) (L : List Int), k ≤ H.length ∧ s = .int .i64 k ∧ L.length ≤ k ∧ Hid (f = H.length - k) ∧ Hid (L = namedZ H nm n k) ∧ Hid (wr.ownsRow w.heap.size 3 1 o L.length (L.map (Value.int .i64))) ∧ Hid (Below w.heap.size w wr))
  case atStart => exact ⟨0, [], by omega, rfl, by simp, rfl, rfl, own_madeI w, HB0.out⟩
  case round =>
    obtain ⟨k, L, hk, rfl, hLk, HN, HL, HO, HW⟩ := hrel
    by_cases hlt : k < H.length
    · obtain ⟨b, off, a1, rfl, -, hcc, hta⟩ := HH.out.get k hlt
      obtain ⟨p1, q1, rfl, _⟩ := hta.shape
      obtain ⟨c0, c1, c2, c3⟩ := hcc.block (HW.out.block _ hcc.lt)
      have hbw := World.block_lt_of_cell? wr _ c0
      have HS := Lib.hid (namedZ_step H nm n k hlt)
      have hb0 : w.heap.size ≤ wr.heap.size := HW.out.size
      clear hcc hta
      generalize H[k] = t at *
      have CI : Hid (∀ W, Calls Try.prog 84 #[.agg #[.int .i64 t.kind, .int .i64 t.num, .string t.name, .slice p1 t.args.length q1], .string nm, .int .i64 n] W fun e w' => e = .returned (.bool (headOf nm n t)) ∧ Below W.heap.size W w') := fun W => by
        have h := isRef_c t p1 q1 nm n W
        rw [headOf_isR] at h; exact h
      generalize headOf nm n t = r at *
      obtain ⟨oa, oc, rfl, _⟩ := (SlAt.of_own HO.out).shape
      cases r with
      | false =>
        have HL2 : Hid (L = namedZ H nm n (k + 1)) := by show _ = _; rw [HS.out, HL.out]; simp
        go_wp2_with (first | (go_at_call 84; ((with_reducible refine (CI.out _).mono ?_); rintro e W2 ⟨rfl, bb⟩; have B2 := Lib.hid bb; clear bb)))
        go_roundg (H.length - (k + 1))
        case measure => have := HN.out; omega
        case rel => exact ⟨k + 1, L, by omega, by go_num, by omega, rfl, HL2, own_below HO.out B2.out, HW.out.trans (B2.out.mono hb0)⟩
      | true =>
        have HL2 : Hid (L ++ [(k : Int)] = namedZ H nm n (k + 1)) := by show _ = _; rw [HS.out, HL.out]; simp
        go_wp2_with (first
          | (at_builtin; refine wpList_appendX rfl (.tmp 23) (.tmp 25) 29 rfl w.heap.size 3 i0 (.int .i64 0) 1 8 Try.underlying29 hi hz0 hz1 hz2 rfl (by decide) _ L.length (L.map (Value.int .i64)) rfl (own_below HO.out B2.out) _ _ rfl rfl rfl (one1 rfl) ⟨by omega, by omega⟩ (Nat.le_trans hb0 B2.out.size) ?_; intro g cap W5 ho5 hb5 hk5 hl5; have R5 := Lib.hid ho5; have B5 := Lib.hid ((HW.out.trans (B2.out.mono hb0)).trans hb5); clear ho5 hb5 hk5 hl5)
          | (go_at_call 84; ((with_reducible refine (CI.out _).mono ?_); rintro e W2 ⟨rfl, bb⟩; have B2 := Lib.hid bb; clear bb)))
        go_roundg (H.length - (k + 1))
        case measure => have := HN.out; omega
        case rel => exact ⟨k + 1, L ++ [(k : Int)], by omega, by go_num, by simp; omega, rfl, HL2, Lib.hid (by simpa using R5.out), B5.out⟩
    · obtain rfl : k = H.length := by omega
      obtain ⟨oa, oc, rfl, _⟩ := (SlAt.of_own HO.out).shape
      go_wp2
      go_ret
      rw [← HL.out]
      exact ⟨_, _, rfl, HO.out, HW.out⟩
end Go.Proofs.Ytmffobadnmkpbaa
namespace Go.Proofs.Ytmffobadnmkpbaa
open Go.RowKit

/-- is the place kept -/
def keepI (H : List Tm) (g : Tm) (i : Nat) : Bool := !(decide (0 < g.args.length) && clashT ((H.getD i .nil).args.getD 0 .nil) (g.args.getD 0 .nil))
def namesI (H : List Tm) (g : Tm) : List Nat := namedTo H g.name g.args.length H.length
def outZ (H : List Tm) (g : Tm) (k : Nat) : List Int := (((namesI H g).take k).filter (keepI H g)).map fun (i : Nat) => (i : Int)
theorem outZ_len (H : List Tm) (g : Tm) (k : Nat) : (outZ H g k).length ≤ k := by
  unfold outZ
  rw [List.length_map]
  refine Nat.le_trans (List.length_filter_le _ _) ?_
  rw [List.length_take]; omega
theorem outZ_step (H : List Tm) (g : Tm) (k : Nat) (hk : k < (namesI H g).length) : outZ H g (k + 1) = outZ H g k ++ (if keepI H g (namesI H g)[k] then [((namesI H g)[k] : Int)] else []) := by
  unfold outZ
  rw [List.take_succ_eq_append_getElem hk, List.filter_append, List.map_append]
  congr 1
  cases h : keepI H g (namesI H g)[k] <;> simp [h]
theorem outZ_all (H : List Tm) (g : Tm) : outZ H g (namesI H g).length = (whichI H g).map fun (i : Nat) => (i : Int) := by
  unfold outZ; rw [List.take_length]; rfl
theorem namesI_at (H : List Tm) (g : Tm) (k : Nat) (hk : k < (namesI H g).length) : ∃ h : (namesI H g)[k] < H.length, headOf g.name g.args.length H[(namesI H g)[k]] = true := by
  have hm := List.getElem_mem hk
  unfold namesI namedTo at hm
  rw [List.mem_filter, List.mem_range] at hm
  refine ⟨hm.1, ?_⟩
  have h2 := hm.2
  rwa [List.getD_eq_getElem?_getD, List.getElem?_eq_getElem hm.1] at h2
theorem getD_at (H : List Tm) (i : Nat) (h : i < H.length) : H.getD i .nil = H[i] := by rw [List.getD_eq_getElem?_getD, List.getElem?_eq_getElem h]; rfl
theorem namesZ_eq (H : List Tm) (g : Tm) : namedZ H g.name g.args.length H.length = (namesI H g).map fun (i : Nat) => (i : Int) := rfl
set_option maxRecDepth 1000000 in
set_option maxHeartbeats 6400000 in
theorem refWhich_c (vh : Value) (H : List Tm) (g : Tm) (ga : Value) (w : World) (hh : TsAt (fun _ => True) w vh H) (hl : H.length ≤ 4096) (hg : TmAt (fun _ => True) w g ga) (hok : ∀ t ∈ H, t.ok) (hgo : g.ok) (hgn : g.named = true) (hgl : 0 < g.args.length) :
    Calls Try.prog 49 #[vh, tmV g ga] w (RetWhich ((whichI H g).map (fun (i : Nat) => (i : Int))) w) := by
  obtain ⟨ao, cap, rfl, _⟩ := hh.shape
  obtain ⟨p0, q0, rfl, _⟩ := hg.shape
  obtain ⟨i0, hi, hz0, hz1, hz2⟩ := info_parts Try.infoInt
  obtain ⟨WB, hWB⟩ : ∃ WB, WB = w.alloc (.cells #[.int .i64 g.kind, .int .i64 g.num, .string g.name, .slice p0 g.args.length q0] 24) := ⟨_, rfl⟩
  obtain ⟨W0, hW0⟩ : ∃ W0, W0 = WB.alloc (.cells #[] 3) := ⟨_, rfl⟩
  have hsB : WB.heap.size = w.heap.size + 1 := by rw [hWB]; simp
  have hs0 : W0.heap.size = w.heap.size + 2 := by rw [hW0]; simp [hsB]
  have BB : Hid (Below w.heap.size w WB) := by rw [hWB]; exact (Below.refl _ _).alloc (Nat.le_refl _) _
  have XB : Hid (BoxL WB w.heap.size [.int .i64 g.kind, .int .i64 g.num, .string g.name, .slice p0 g.args.length q0]) := by
    rw [hWB]; exact BoxL.mk' w #[.int .i64 g.kind, .int .i64 g.num, .string g.name, .slice p0 g.args.length q0] 24
  have B0 : Hid (Below (w.heap.size + 1) WB W0) := by rw [hW0]; exact (Below.refl _ _).alloc (by omega) _
  have R0 : Hid (W0.ownsRow (w.heap.size + 1) 3 1 (.slice (some ⟨w.heap.size + 1, 0, none⟩) 0 0) 0 []) := by
    have h := own_madeI WB
    rw [← hW0, hsB] at h; exact h
  have CNm : Hid (Calls Try.prog 42 #[.agg #[.int .i64 g.kind, .int .i64 g.num, .string g.name, .slice p0 g.args.length q0]] W0 fun e w' => e = .returned (.tuple #[.string g.name, .int .i64 g.args.length, .bool true]) ∧ Below W0.heap.size W0 w') := by
    have h := refName_c g p0 q0 W0
    rw [hgn] at h; exact h
  obtain ⟨x0, _⟩ := (XB.out.below B0.out (by omega)).get 0 rfl
  obtain ⟨x1, _⟩ := (XB.out.below B0.out (by omega)).get 1 rfl
  obtain ⟨x2, _⟩ := (XB.out.below B0.out (by omega)).get 2 rfl
  obtain ⟨x3, _⟩ := (XB.out.below B0.out (by omega)).get 3 rfl
  have HH := Lib.hid hh
  have HG := Lib.hid hg
  have HOK := Lib.hid hok
  have HGO := Lib.hid hgo
  have HWB := Lib.hid hWB
  have HW0 := Lib.hid hW0
  have HS0 := Lib.hid hs0
  have HSB := Lib.hid hsB
  have HGL := Lib.hid hgl
  unfold tmV
  clear hh hg hok hgo hgn hWB hW0 hs0 hsB
  go_enter Try.func49, Try.ntmps49
  go_upto_region 2 with (fail)
  rw [← HWB.out, ← HW0.out]
  go_upto_region 3 with (go_at_call 42; ((with_reducible refine CNm.out.mono ?_); rintro e W2 ⟨rfl, b2⟩; have B2 := Lib.hid b2; clear b2))
  clear x0 x1 x2 x3 CNm
  have CNd := Lib.hid (refNamed_c (.slice ao H.length cap) H g.name g.args.length W2 (HH.out.later (BB.out.trans (B0.out.mono (by omega) |>.trans (B2.out.mono (by have := HS0.out; omega))))) hl)
  go_upto_region 6 with (go_at_call 87; ((with_reducible refine CNd.out.mono ?_); rintro e W3 ⟨la, lc, rfl, ho3, b3⟩; have O3 := Lib.hid ho3; have B3 := Lib.hid b3; clear ho3 b3))
  have hs0 := HS0.out
  have hsB := HSB.out
  have hb2 := B2.out.size
  have hb3 := B3.out.size
  have BW3 : Hid (Below (w.heap.size + 1) WB W3) := B0.out.trans ((B2.out.mono (by omega)).trans (B3.out.mono (by omega)))
  have NE : Hid ((namedZ H g.name g.args.length H.length).length = (namesI H g).length) := by show _ = _; rw [namesZ_eq, List.length_map]
  have NL := namedZ_len H g.name g.args.length H.length
  have R3 : Hid (W3.ownsRow (w.heap.size + 1) 3 1 (.slice (some ⟨w.heap.size + 1, 0, none⟩) 0 0) 0 []) := own_below (own_below R0.out B2.out) B3.out
  clear R0 CNd
  go_wp2
  go_loopg [5, 10] (namesI H g).length (fun f o s wr => ∃ (k : Nat) (L : List Int), k ≤ (namesI H g).length ∧ s = .int .i64 k ∧ L.length ≤ k ∧ Hid (f = (namesI H g).length - k) ∧ Hid (L = outZ H g k) ∧ Hid (wr.ownsRow (w.heap.size + 1) 3 1 o L.length (L.map (Value.int .i64))) ∧ Hid (Below (w.heap.size + 1) WB wr) ∧
    Hid (∀ b, W2.heap.size ≤ b → b < W3.heap.size → wr.heap[b]? = W3.heap[b]?) ∧ Hid (∀ g, o.ownBlock = some g → g < W2.heap.size ∨ W3.heap.size ≤ g) ∧ Hid (W3.heap.size ≤ wr.heap.size))
  case atStart => exact ⟨0, [], by omega, rfl, by simp, rfl, rfl, R3.out, BW3.out, fun b _ _ => rfl, (fun g e => by have : some (w.heap.size + 1) = some g := e; injection this with this; omega), Nat.le_refl _⟩
  case round =>
    obtain ⟨k, L, hk, rfl, hLk, HN, HL, HO, HW, HK1, HK2, HK3⟩ := hrel
    have hk3 := HK3.out
    by_cases hlt : k < (namesI H g).length
    · obtain ⟨hiH, hih⟩ := namesI_at H g k hlt
      have hkZ : k < (namedZ H g.name g.args.length H.length).length := by rw [NE.out]; exact hlt
      obtain ⟨bl, ol, rfl, hlc, hlb, hlcell⟩ := IsAt.getR (SlAt.of_own O3.out) k hkZ
      have hle : (namedZ H g.name g.args.length H.length)[k] = ((namesI H g)[k] : Int) := by simp only [namesZ_eq, List.getElem_map]
      rw [hle] at hlcell
      have hlbo : W2.heap.size ≤ bl := (O3.out.lt bl rfl).1
      have HS := Lib.hid (outZ_step H g k hlt)
      have hki : keepI H g (namesI H g)[k] = !clashT (H[(namesI H g)[k]].args.getD 0 .nil) (g.args.getD 0 .nil) := by
        unfold keepI
        rw [getD_at H _ hiH]
        simp [HGL.out]
      have HKI := Lib.hid hki
      clear hki hle
      generalize (namesI H g)[k] = i at *
      obtain ⟨b, off, a1, rfl, -, hcc, hta⟩ := HH.out.get i hiH
      obtain ⟨p1, q1, rfl, _⟩ := hta.shape
      have htl : H[i].args.length = g.args.length := by
        unfold headOf at hih
        simp only [Bool.and_eq_true, beq_iff_eq] at hih
        omega
      have htok : H[i].ok := HOK.out _ (List.getElem_mem _)
      have hgl := HGL.out
      generalize H[i] = t at *
      obtain ⟨b1, o1, a1, rfl, -, cu, tu⟩ := (TsAt.of_tm hta).get 0 (by omega)
      obtain ⟨b2, o2, a2, rfl, -, cv, tv⟩ := (TsAt.of_tm HG.out).get 0 hgl
      have hu0 : t.args.getD 0 .nil = t.args[0] := by rw [List.getD_eq_getElem?_getD, List.getElem?_eq_getElem (by omega)]; rfl
      have hv0 : g.args.getD 0 .nil = g.args[0] := by rw [List.getD_eq_getElem?_getD, List.getElem?_eq_getElem hgl]; rfl
      rw [hu0, hv0] at HKI
      have huok : t.args[0].ok := Tm.ok_args htok _ (List.getElem_mem _)
      have hvok : g.args[0].ok := Tm.ok_args HGO.out _ (List.getElem_mem _)
      obtain ⟨pu, qu, rfl, _⟩ := tu.shape
      obtain ⟨pv, qv, rfl, _⟩ := tv.shape
      have CCl : Hid (∀ W, Calls Try.prog 88 #[.agg #[.int .i64 t.args[0].kind, .int .i64 t.args[0].num, .string t.args[0].name, .slice pu t.args[0].args.length qu], .agg #[.int .i64 g.args[0].kind, .int .i64 g.args[0].num, .string g.args[0].name, .slice pv g.args[0].args.length qv]] W fun e w' => e = .returned (.bool (clashT t.args[0] g.args[0])) ∧ Below W.heap.size W w') := fun W => refClash_c _ _ _ _ _ _ W huok hvok
      have hltB := cu.lt
      have hltB2 := cv.lt
      have hltB3 := hcc.lt
      have hBWr : Below w.heap.size w wr := BB.out.trans (HW.out.mono (by omega))
      have kp : ∀ {x : Nat}, x < w.heap.size → wr.heap[x]? = w.heap[x]? := fun {x} hx => hBWr.block x hx
      have cu' := cu.block (kp hltB)
      have cv' := cv.block (kp hltB2)
      have ct' := (hcc.block (kp hltB3)).c3
      have cb' := ((XB.out.block (HW.out.block _ (by omega))).get 3 rfl).1
      have cl' := (World.cell?_of_block (a := ⟨bl, ol + k, none⟩) (HK1.out bl hlbo hlb)).trans hlcell
      have hwr0 : w.heap.size ≤ wr.heap.size := hBWr.size
      clear cu cv tu tv hu0 hv0 huok hvok htok hta hcc hih hlcell
      generalize t.args[0] = u at *
      generalize g.args[0] = v at *
      generalize clashT u v = cl at *
      simp only [Nat.zero_mul, Nat.add_zero] at cu' cv'
      have hS : Hid (∀ X, Below wr.heap.size wr X → X.cell? ⟨bl, ol + k, none⟩ = some (.int .i64 (i : Nat)) ∧ X.cell? ⟨b, off + i * 4 + 3, none⟩ = some (.slice (some ⟨b1, o1, none⟩) t.args.length q1) ∧ X.cell? ⟨w.heap.size, 3, none⟩ = some (.slice (some ⟨b2, o2, none⟩) g.args.length q0) ∧ (X.cell? ⟨b1, o1, none⟩ = some (.int .i64 u.kind) ∧ X.cell? ⟨b1, o1 + 1, none⟩ = some (.int .i64 u.num) ∧ X.cell? ⟨b1, o1 + 2, none⟩ = some (.string u.name) ∧ X.cell? ⟨b1, o1 + 3, none⟩ = some (.slice pu u.args.length qu)) ∧ (X.cell? ⟨b2, o2, none⟩ = some (.int .i64 v.kind) ∧ X.cell? ⟨b2, o2 + 1, none⟩ = some (.int .i64 v.num) ∧ X.cell? ⟨b2, o2 + 2, none⟩ = some (.string v.name) ∧ X.cell? ⟨b2, o2 + 3, none⟩ = some (.slice pv v.args.length qv))) := fun X hX => by
        have cu2 := cu'.block (hX.block _ cu'.lt)
        have cv2 := cv'.block (hX.block _ cv'.lt)
        have cc : ∀ {p : Addr} {y : Value}, wr.cell? p = some y → X.cell? p = some y := fun {p y} h => (hX.cell (p := p) (World.block_lt_of_cell? wr p h)).trans h
        exact ⟨cc cl', cc ct', cc cb', ⟨cu2.c0, cu2.c1, cu2.c2, cu2.c3⟩, cv2.c0, cv2.c1, cv2.c2, cv2.c3⟩
      have s0 := hS.out _ (Below.refl _ _)
      have hgi : (0 : Int) < g.args.length := by omega
      have hti : (0 : Int) < t.args.length := by omega
      have hkZ' : (k : Int) < (namedZ H g.name g.args.length H.length).length := by omega
      have hiH' : (i : Int) < H.length := by omega
      have hgne : ((g.args.length : Int) == 0) = false := beq_eq_false_iff_ne.2 (by omega)
      clear cu' cv' ct' cb' cl' kp hBWr
      go_upto_region 9 with (fail)
      go_region_held3 (fun W => W.cell? ⟨bl, ol + k, none⟩ = some (.int .i64 (i : Nat)) ∧ W.cell? ⟨b, off + i * 4 + 3, none⟩ = some (.slice (some ⟨b1, o1, none⟩) t.args.length q1) ∧ W.cell? ⟨w.heap.size, 3, none⟩ = some (.slice (some ⟨b2, o2, none⟩) g.args.length q0) ∧ (W.cell? ⟨b1, o1, none⟩ = some (.int .i64 u.kind) ∧ W.cell? ⟨b1, o1 + 1, none⟩ = some (.int .i64 u.num) ∧ W.cell? ⟨b1, o1 + 2, none⟩ = some (.string u.name) ∧ W.cell? ⟨b1, o1 + 3, none⟩ = some (.slice pu u.args.length qu)) ∧ (W.cell? ⟨b2, o2, none⟩ = some (.int .i64 v.kind) ∧ W.cell? ⟨b2, o2 + 1, none⟩ = some (.int .i64 v.num) ∧ W.cell? ⟨b2, o2 + 2, none⟩ = some (.string v.name) ∧ W.cell? ⟨b2, o2 + 3, none⟩ = some (.slice pv v.args.length qv)))
        ((first | (with_reducible exact s0) | (with_reducible exact hS.out _ P8.out) | (refine hS.out _ ?_; go_grown)))
        (first | (go_at_call 88; refine (CCl.out _).mono ?_; rintro e W8 ⟨rfl, bb⟩; have P8 : Hid (Below wr.heap.size wr W8) := Below.trans (B := wr.heap.size) (by go_grown) (bb.mono (by go_size)); clear bb))
      have k8 := (hS.out _ P8.out).1
      have hw8 : wr.heap.size ≤ W8.heap.size := P8.out.size
      have BW8 : Hid (Below (w.heap.size + 1) WB W8) := HW.out.trans (P8.out.mono (by omega))
      have O8 := Lib.hid (own_below HO.out P8.out)
      have K8 : Hid (∀ b, W2.heap.size ≤ b → b < W3.heap.size → W8.heap[b]? = W3.heap[b]?) := fun b h1 h2 => (P8.out.block b (by omega)).trans (HK1.out b h1 h2)
      obtain ⟨oa, oc, rfl, _⟩ := (SlAt.of_own O8.out).shape
      have hbl8 : bl < W8.heap.size := by omega
      clear s0 hS CCl
      cases cl with
      | true =>
        have HL2 : Hid (L = outZ H g (k + 1)) := by show _ = _; rw [HS.out, HKI.out, HL.out]; simp
        go_wp2
        go_roundg ((namesI H g).length - (k + 1))
        case measure => have := HN.out; omega
        case rel => exact ⟨k + 1, L, by omega, by go_num, by omega, rfl, HL2, O8, BW8, K8, HK2, Lib.hid (Nat.le_trans hk3 hw8)⟩
      | false =>
        have HL2 : Hid (L ++ [(i : Int)] = outZ H g (k + 1)) := by show _ = _; rw [HS.out, HKI.out, HL.out]; simp
        go_wp2_with (at_builtin; refine wpList_appendX rfl (.tmp 51) (.tmp 56) 29 rfl (w.heap.size + 1) 3 i0 (.int .i64 0) 1 8 Try.underlying29 hi hz0 hz1 hz2 rfl (by decide) _ L.length (L.map (Value.int .i64)) rfl O8.out _ _ rfl rfl rfl (one1 rfl) ⟨by omega, by omega⟩ (by omega) ?_; intro g5 cap5 W5 ho5 hb5 hk5 hl5; have R5 := Lib.hid ho5; have B5 := Lib.hid hb5; have K5 := Lib.hid hk5; have L5 := Lib.hid hl5; clear ho5 hb5 hk5 hl5)
        go_roundg ((namesI H g).length - (k + 1))
        case measure => have := HN.out; omega
        case rel =>
          have h5 := B5.out.size
          have HK7 : Hid (∀ g, (Value.slice (some ⟨g5, 0, none⟩) (L.length + 1) cap5).ownBlock = some g → g < W2.heap.size ∨ W3.heap.size ≤ g) := fun g e => by
            have e' : some g5 = some g := e
            injection e' with e'
            subst e'
            rcases L5.out with h | h
            · exact HK2.out _ h
            · right; omega
          have HK6 : Hid (∀ b, W2.heap.size ≤ b → b < W3.heap.size → W5.heap[b]? = W3.heap[b]?) := fun b h1 h2 => (K5.out b (by omega) (fun e => by rcases HK2.out b e with h | h <;> omega)).trans (K8.out b h1 h2)
          exact ⟨k + 1, L ++ [(i : Int)], by omega, by go_num, by simp; omega, rfl, HL2, Lib.hid (by simpa using R5.out), BW8.out.trans (B5.out.mono (Nat.le_refl _)), HK6, by simpa using HK7, Lib.hid (by show W3.heap.size ≤ _; omega)⟩
    · obtain rfl : k = (namesI H g).length := by omega
      have hge : ¬ (((namesI H g).length : Int) < (namedZ H g.name g.args.length H.length).length) := by rw [NE.out]; omega
      obtain ⟨oa, oc, rfl, _⟩ := (SlAt.of_own HO.out).shape
      go_wp2
      go_ret
      rw [← outZ_all, ← HL.out]
      exact ⟨_, _, rfl, SlAt.of_own HO.out, BB.out.trans (HW.out.mono (by omega))⟩
end Go.Proofs.Ytmffobadnmkpbaa
namespace Go.Proofs.Ytmffobadnmkpbaa
open Go.RowKit

def pS : ByteArray := ⟨#[112]⟩
def factT (z : Int) : Tm := .cmp pS [.int z]
/-- the heads' list vh, the wanted list vw -/
structure FL (h : Nat) (w wr : World) (vh vw : Value) (L : List (Tm × Value)) (M : List Int) : Prop where
  ts : OwnTs (fun b => vw.ownBlock ≠ some b) h wr vh L
  ow : wr.ownsRow h 3 1 vw M.length (M.map (Value.int .i64))
  ne : ∀ b, vh.ownBlock = some b → vw.ownBlock ≠ some b
  bel : Below h w wr
theorem FL.below {h : Nat} {w wr wr' : World} {vh vw : Value} {L : List (Tm × Value)} {M : List Int} (H : FL h w wr vh vw L M) (hs : h ≤ wr.heap.size) (hb : Below wr.heap.size wr wr') : FL h w wr' vh vw L M :=
  ⟨H.ts.below hb, own_below H.ow hb, H.ne, H.bel.trans (hb.mono hs)⟩
theorem own_kept9 {w w' : World} {B e size n : Nat} {v u : Value} {xs : List Value} (h : w.ownsRow B e size v n xs) (hk : KeepsBut w w' u) (hn : ∀ b, v.ownBlock = some b → u.ownBlock ≠ some b) : w'.ownsRow B e size v n xs := by
  refine ⟨h.1, ?_⟩
  rcases h.2 with hn' | ⟨g, cap, cur, rfl, hg, hgg, rest⟩
  · exact .inl hn'
  · exact .inr ⟨g, cap, cur, rfl, hg, (hk g (Array.getElem?_eq_some_iff.1 hgg).1 (hn g rfl)).trans hgg, rest⟩
theorem factT_at {w : World} {z : Int} {q : Nat → Prop} (hq : q w.heap.size) {T : TypeId} : TmAt q (w.alloc (.cells #[.int .i64 2, .int .i64 z, .string ⟨#[]⟩, .slice none 0 0] T)) (factT z) (.slice (some ⟨w.heap.size, 0, none⟩) 1 1) := by
  have hb := BoxL.mk' w #[.int .i64 2, .int .i64 z, .string ⟨#[]⟩, .slice none 0 0] T
  refine .node (av0 := fun _ => .slice none 0 0) (by simp) (by simp) (by decide) hq (fun i hi => ?_) (fun i hi => ?_)
  · have : i = 0 := by simp at hi; omega
    subst this
    exact ⟨(hb.get 0 rfl).1, (hb.get 1 rfl).1, (hb.get 2 rfl).1, (hb.get 3 rfl).1⟩
  · have : i = 0 := by simp at hi; omega
    subst this
    exact .leaf rfl
theorem FL.head {h : Nat} {w wr w' : World} {vh vw : Value} {L : List (Tm × Value)} {M : List Int} (H : FL h w wr vh vw L M) (hs : h ≤ wr.heap.size) {z : Int} {T : TypeId} {g cap : Nat}
    (ho : w'.ownsRow h 24 4 (.slice (some ⟨g, 0, none⟩) (L.length + 1) cap) (L.length + 1) (tmCs L ++ (#[.int .i64 4, .int .i64 0, .string ⟨#[112]⟩, .slice (some ⟨wr.heap.size, 0, none⟩) 1 1] : Array Value).toList))
    (hb : Below h (wr.alloc (.cells #[.int .i64 2, .int .i64 z, .string ⟨#[]⟩, .slice none 0 0] T)) w')
    (hk : KeepsBut (wr.alloc (.cells #[.int .i64 2, .int .i64 z, .string ⟨#[]⟩, .slice none 0 0] T)) w' vh) (hp : vh.ownBlock = some g ∨ (wr.alloc (.cells #[.int .i64 2, .int .i64 z, .string ⟨#[]⟩, .slice none 0 0] T)).heap.size ≤ g) :
    FL h w w' (.slice (some ⟨g, 0, none⟩) (L.length + 1) cap) vw (L ++ [(factT z, .slice (some ⟨wr.heap.size, 0, none⟩) 1 1)]) M := by
  have H1 := H.below hs ((Below.refl _ wr).alloc (Nat.le_refl _) (.cells #[.int .i64 2, .int .i64 z, .string ⟨#[]⟩, .slice none 0 0] T))
  have f1 : vh.ownBlock ≠ some wr.heap.size := own_far H.ts.own (Nat.le_refl _)
  have f2 : vw.ownBlock ≠ some wr.heap.size := own_far H.ow (Nat.le_refl _)
  refine ⟨H1.ts.push (t := factT z) (factT_at ⟨f1, f2⟩) ho hk hp, own_kept9 H1.ow hk (fun b e e' => H1.ne b e' e), fun b e => ?_, H1.bel.trans hb⟩
  have e' : some g = some b := e
  injection e' with e'
  subst e'
  rcases hp with hp | hp
  · exact H1.ne _ hp
  · exact own_far H1.ow hp
theorem FL.want {h : Nat} {w wr w' : World} {vh vw : Value} {L : List (Tm × Value)} {M : List Int} (H : FL h w wr vh vw L M) {z : Int} {g cap : Nat}
    (ho : w'.ownsRow h 3 1 (.slice (some ⟨g, 0, none⟩) (M.length + 1) cap) (M.length + 1) (M.map (Value.int .i64) ++ (#[.int .i64 z] : Array Value).toList))
    (hb : Below h wr w') (hk : KeepsBut wr w' vw) (hp : vw.ownBlock = some g ∨ wr.heap.size ≤ g) : FL h w w' vh (.slice (some ⟨g, 0, none⟩) (M.length + 1) cap) L (M ++ [z]) := by
  have hg : ∀ b, b < wr.heap.size → vw.ownBlock ≠ some b → (Value.slice (some ⟨g, 0, none⟩) (M.length + 1) cap).ownBlock ≠ some b := fun b hb' hp' e => by
    have e' : some g = some b := e
    injection e' with e'
    subst e'
    rcases hp with hp | hp
    · exact hp' hp
    · omega
  have ht : ∀ x ∈ L, TmAt (fun b => vh.ownBlock ≠ some b ∧ (Value.slice (some ⟨g, 0, none⟩) (M.length + 1) cap).ownBlock ≠ some b) w' x.1 x.2 := fun x hx => (H.ts.tms x hx).mono fun b hb' hp' => ⟨⟨hp'.1, hg b hb' hp'.2⟩, hk b hb' hp'.2⟩
  exact ⟨⟨own_kept9 H.ts.own hk H.ne, ht⟩, by simpa using ho, fun b e => hg b (H.ts.own.lt b e).2 (H.ne b e), H.bel.trans hb⟩
theorem FL.start (w : World) : FL w.heap.size w ((w.alloc (.cells #[] 24)).alloc (.cells #[] 3)) (.slice (some ⟨w.heap.size, 0, none⟩) 0 0) (.slice (some ⟨w.heap.size + 1, 0, none⟩) 0 0) [] [] := by
  have b1 : Below w.heap.size w (w.alloc (.cells #[] 24)) := (Below.refl _ _).alloc (Nat.le_refl _) _
  have b2 : Below (w.alloc (.cells #[] 24)).heap.size (w.alloc (.cells #[] 24)) ((w.alloc (.cells #[] 24)).alloc (.cells #[] 3)) := (Below.refl _ _).alloc (Nat.le_refl _) _
  refine ⟨(OwnTs.made _ w).below b2, ?_, fun b e e' => ?_, b1.trans (b2.mono (by simp))⟩
  · have h := own_madeI (w.alloc (.cells #[] 24))
    simp only [World.size_alloc] at h
    refine ⟨rfl, ?_⟩
    rcases h.2 with hn | ⟨g, cap, cur, e, hg, hgg, rest⟩
    · exact .inl hn
    · exact .inr ⟨g, cap, cur, e, by omega, hgg, rest⟩
  · have e1 : some w.heap.size = some b := e
    have e2 : some (w.heap.size + 1) = some b := e'
    injection e1 with e1
    injection e2 with e2
    omega
/-- what is wanted of the first k -/
def wantL (zs : List Int) (z : Int) (op : Bool) (k : Nat) : List Int := ((List.range k).filter fun i => op || (zs.getD i 0 == z)).map fun (i : Nat) => (i : Int)
theorem wantL_len (zs : List Int) (z : Int) (op : Bool) (k : Nat) : (wantL zs z op k).length ≤ k := by
  unfold wantL
  have h := List.length_filter_le (fun i => op || (zs.getD i 0 == z)) (List.range k)
  rw [List.length_range] at h
  rw [List.length_map]; exact h
theorem wantL_step (zs : List Int) (z : Int) (op : Bool) (k : Nat) (hk : k < zs.length) : wantL zs z op (k + 1) = wantL zs z op k ++ (if op || (zs[k] == z) then [(k : Int)] else []) := by
  unfold wantL
  rw [List.range_succ, List.filter_append, List.map_append]
  congr 1
  have e : zs.getD k 0 = zs[k] := by rw [List.getD_eq_getElem?_getD, List.getElem?_eq_getElem hk]; rfl
  simp only [List.filter_cons, List.filter_nil, e]
  cases (op || zs[k] == z) <;> rfl
def goalT (z : Int) (op : Bool) : Tm := .cmp pS [if op then .var 3 else .int z]
theorem fact_getD (zs : List Int) (i : Nat) (h : i < zs.length) : (zs.map factT).getD i .nil = factT (zs.getD i 0) := by
  rw [List.getD_eq_getElem?_getD, List.getD_eq_getElem?_getD, List.getElem?_map, List.getElem?_eq_getElem h]; rfl
theorem facts_named (zs : List Int) : namedTo (zs.map factT) pS 1 (zs.map factT).length = List.range zs.length := by
  unfold namedTo
  rw [List.length_map, List.filter_eq_self]
  intro i hi
  rw [List.mem_range] at hi
  rw [fact_getD zs i hi]
  unfold headOf factT
  simp [Tm.named, Tm.kind, Tm.name, Tm.args]
theorem facts_named2 (zs : List Int) : namedTo (zs.map factT) pS 2 (zs.map factT).length = [] := by
  unfold namedTo
  rw [List.length_map, List.filter_eq_nil_iff]
  intro i hi
  rw [List.mem_range] at hi
  rw [fact_getD zs i hi]
  unfold headOf factT
  simp [Tm.args]
theorem facts_which (zs : List Int) (z : Int) (op : Bool) : (whichI (zs.map factT) (goalT z op)).map (fun (i : Nat) => (i : Int)) = wantL zs z op zs.length := by
  unfold whichI wantL
  have e1 : (goalT z op).name = pS := rfl
  have e2 : (goalT z op).args.length = 1 := rfl
  rw [e1, e2]
  rw [show ((1 : Nat) : Int) = 1 from rfl, facts_named]
  congr 1
  refine List.filter_congr fun i hi => ?_
  rw [List.mem_range] at hi
  rw [fact_getD zs i hi]
  cases op <;> simp [goalT, factT, Tm.args, clashT, keyK, keyN, keyS, Tm.kind, Tm.num]
theorem goalT_ok (z : Int) (op : Bool) (h1 : -128 ≤ z) (h2 : z ≤ 127) : (goalT z op).ok := by
  refine .cmp (by decide) (by simp) fun t ht => ?_
  rw [List.mem_singleton] at ht
  subst ht
  cases op
  · exact .int (by omega) (by omega)
  · exact .var (by omega)
theorem factT_ok (z : Int) (h1 : -128 ≤ z) (h2 : z ≤ 127) : (factT z).ok := by
  refine .cmp (by decide) (by simp) fun t ht => ?_
  rw [List.mem_singleton] at ht
  subst ht
  exact .int (by omega) (by omega)
end Go.Proofs.Ytmffobadnmkpbaa
