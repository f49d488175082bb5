/-
  coneyref12.Which, walked.
  Both Whichs at goals that are not named, and the document's at goals without arguments (its second half printed by genid13.py out of Id9's text).
  Both Whichs at whatever goal.
  BINDINGS of coneyref08: rows of five cells; find, walked.
  coneyref08.walk, walked.
-/
import Derived.Test.YtmffobadnmkpbaaKidx3
import Derived.Test.YtmffobadnmkpbaaKtm4
import Derived.Deep.LoopGhost
namespace Go.Proofs.Ytmffobadnmkpbaa
open Go.RowKit

/-- is the place kept -/
def keepI (H : List Tm) (g : Tm) (i : Nat) : Bool := !(decide (0 < g.args.length) && clashT ((H.getD i .nil).args.getD 0 .nil) (g.args.getD 0 .nil))
def namesI (H : List Tm) (g : Tm) : List Nat := namedTo H g.name g.args.length H.length
def outZ (H : List Tm) (g : Tm) (k : Nat) : List Int := (((namesI H g).take k).filter (keepI H g)).map fun (i : Nat) => (i : Int)
theorem outZ_len (H : List Tm) (g : Tm) (k : Nat) : (outZ H g k).length ≤ k := by
  unfold outZ
  rw [List.length_map]
  refine Nat.le_trans (List.length_filter_le _ _) ?_
  rw [List.length_take]; omega
theorem outZ_step (H : List Tm) (g : Tm) (k : Nat) (hk : k < (namesI H g).length) : outZ H g (k + 1) = outZ H g k ++ (if keepI H g (namesI H g)[k] then [((namesI H g)[k] : Int)] else []) := by
  unfold outZ
  rw [List.take_succ_eq_append_getElem hk, List.filter_append, List.map_append]
  congr 1
  cases h : keepI H g (namesI H g)[k] <;> simp [h]
theorem outZ_all (H : List Tm) (g : Tm) : outZ H g (namesI H g).length = (whichI H g).map fun (i : Nat) => (i : Int) := by
  unfold outZ; rw [List.take_length]; rfl
theorem namesI_at (H : List Tm) (g : Tm) (k : Nat) (hk : k < (namesI H g).length) : ∃ h : (namesI H g)[k] < H.length, headOf g.name g.args.length H[(namesI H g)[k]] = true := by
  have hm := List.getElem_mem hk
  unfold namesI namedTo at hm
  rw [List.mem_filter, List.mem_range] at hm
  refine ⟨hm.1, ?_⟩
  have h2 := hm.2
  rwa [List.getD_eq_getElem?_getD, List.getElem?_eq_getElem hm.1] at h2
theorem getD_at (H : List Tm) (i : Nat) (h : i < H.length) : H.getD i .nil = H[i] := by rw [List.getD_eq_getElem?_getD, List.getElem?_eq_getElem h]; rfl
theorem namesZ_eq (H : List Tm) (g : Tm) : namedZ H g.name g.args.length H.length = (namesI H g).map fun (i : Nat) => (i : Int) := rfl
set_option maxRecDepth 1000000 in
set_option maxHeartbeats 6400000 in
theorem refWhich_c (vh : Value) (H : List Tm) (g : Tm) (ga : Value) (w : World) (hh : TsAt (fun _ => True) w vh H) (hl : H.length ≤ 4096) (hg : TmAt (fun _ => True) w g ga) (hok : ∀ t ∈ H, t.ok) (hgo : g.ok) (hgn : g.named = true) (hgl : 0 < g.args.length) :
    Calls Try.prog 49 #[vh, tmV g ga] w (RetWhich ((whichI H g).map (fun (i : Nat) => (i : Int))) w) := by
  obtain ⟨ao, cap, rfl, _⟩ := hh.shape
  obtain ⟨p0, q0, rfl, _⟩ := hg.shape
  obtain ⟨i0, hi, hz0, hz1, hz2⟩ := info_parts Try.infoInt
  obtain ⟨WB, hWB⟩ : ∃ WB, WB = w.alloc (.cells #[.int .i64 g.kind, .int .i64 g.num, .string g.name, .slice p0 g.args.length q0] 24) := ⟨_, rfl⟩
  obtain ⟨W0, hW0⟩ : ∃ W0, W0 = WB.alloc (.cells #[] 3) := ⟨_, rfl⟩
  have hsB : WB.heap.size = w.heap.size + 1 := by rw [hWB]; simp
  have hs0 : W0.heap.size = w.heap.size + 2 := by rw [hW0]; simp [hsB]
  have BB : Hid (Below w.heap.size w WB) := by rw [hWB]; exact (Below.refl _ _).alloc (Nat.le_refl _) _
  have XB : Hid (BoxL WB w.heap.size [.int .i64 g.kind, .int .i64 g.num, .string g.name, .slice p0 g.args.length q0]) := by
    rw [hWB]; exact BoxL.mk' w #[.int .i64 g.kind, .int .i64 g.num, .string g.name, .slice p0 g.args.length q0] 24
  have B0 : Hid (Below (w.heap.size + 1) WB W0) := by rw [hW0]; exact (Below.refl _ _).alloc (by omega) _
  have R0 : Hid (W0.ownsRow (w.heap.size + 1) 3 1 (.slice (some ⟨w.heap.size + 1, 0, none⟩) 0 0) 0 []) := by
    have h := own_madeI WB
    rw [← hW0, hsB] at h; exact h
  have CNm : Hid (Calls Try.prog 42 #[.agg #[.int .i64 g.kind, .int .i64 g.num, .string g.name, .slice p0 g.args.length q0]] W0 fun e w' => e = .returned (.tuple #[.string g.name, .int .i64 g.args.length, .bool true]) ∧ Below W0.heap.size W0 w') := by
    have h := refName_c g p0 q0 W0
    rw [hgn] at h; exact h
  obtain ⟨x0, _⟩ := (XB.out.below B0.out (by omega)).get 0 rfl
  obtain ⟨x1, _⟩ := (XB.out.below B0.out (by omega)).get 1 rfl
  obtain ⟨x2, _⟩ := (XB.out.below B0.out (by omega)).get 2 rfl
  obtain ⟨x3, _⟩ := (XB.out.below B0.out (by omega)).get 3 rfl
  have HH := Lib.hid hh
  have HG := Lib.hid hg
  have HOK := Lib.hid hok
  have HGO := Lib.hid hgo
  have HWB := Lib.hid hWB
  have HW0 := Lib.hid hW0
  have HS0 := Lib.hid hs0
  have HSB := Lib.hid hsB
  have HGL := Lib.hid hgl
  unfold tmV
  clear hh hg hok hgo hgn hWB hW0 hs0 hsB
  go_enter Try.func49, Try.ntmps49
  go_upto_region 2 with (fail)
  rw [← HWB.out, ← HW0.out]
  go_upto_region 3 with (go_at_call 42; ((with_reducible refine CNm.out.mono ?_); rintro e W2 ⟨rfl, b2⟩; have B2 := Lib.hid b2; clear b2))
  clear x0 x1 x2 x3 CNm
  have CNd := Lib.hid (refNamed_c (.slice ao H.length cap) H g.name g.args.length W2 (HH.out.later (BB.out.trans (B0.out.mono (by omega) |>.trans (B2.out.mono (by have := HS0.out; omega))))) hl)
  go_upto_region 6 with (go_at_call 87; ((with_reducible refine CNd.out.mono ?_); rintro e W3 ⟨la, lc, rfl, ho3, b3⟩; have O3 := Lib.hid ho3; have B3 := Lib.hid b3; clear ho3 b3))
  have hs0 := HS0.out
  have hsB := HSB.out
  have hb2 := B2.out.size
  have hb3 := B3.out.size
  have BW3 : Hid (Below (w.heap.size + 1) WB W3) := B0.out.trans ((B2.out.mono (by omega)).trans (B3.out.mono (by omega)))
  have NE : Hid ((namedZ H g.name g.args.length H.length).length = (namesI H g).length) := by show _ = _; rw [namesZ_eq, List.length_map]
  have NL := namedZ_len H g.name g.args.length H.length
  have R3 : Hid (W3.ownsRow (w.heap.size + 1) 3 1 (.slice (some ⟨w.heap.size + 1, 0, none⟩) 0 0) 0 []) := own_below (own_below R0.out B2.out) B3.out
  clear R0 CNd
  go_wp2
  go_loopg [5, 10] (namesI H g).length (fun f o s wr => ∃ (k : Nat) (L : List Int), k ≤ (namesI H g).length ∧ s = .int .i64 k ∧ L.length ≤ k ∧ Hid (f = (namesI H g).length - k) ∧ Hid (L = outZ H g k) ∧ Hid (wr.ownsRow (w.heap.size + 1) 3 1 o L.length (L.map (Value.int .i64))) ∧ Hid (Below (w.heap.size + 1) WB wr) ∧
    Hid (∀ b, W2.heap.size ≤ b → b < W3.heap.size → wr.heap[b]? = W3.heap[b]?) ∧ Hid (∀ g, o.ownBlock = some g → g < W2.heap.size ∨ W3.heap.size ≤ g) ∧ Hid (W3.heap.size ≤ wr.heap.size))
  case atStart => exact ⟨0, [], by omega, rfl, by simp, rfl, rfl, R3.out, BW3.out, fun b _ _ => rfl, (fun g e => by have : some (w.heap.size + 1) = some g := e; injection this with this; omega), Nat.le_refl _⟩
  case round =>
    obtain ⟨k, L, hk, rfl, hLk, HN, HL, HO, HW, HK1, HK2, HK3⟩ := hrel
    have hk3 := HK3.out
    by_cases hlt : k < (namesI H g).length
    · obtain ⟨hiH, hih⟩ := namesI_at H g k hlt
      have hkZ : k < (namedZ H g.name g.args.length H.length).length := by rw [NE.out]; exact hlt
      obtain ⟨bl, ol, rfl, hlc, hlb, hlcell⟩ := IsAt.getR (SlAt.of_own O3.out) k hkZ
      have hle : (namedZ H g.name g.args.length H.length)[k] = ((namesI H g)[k] : Int) := by simp only [namesZ_eq, List.getElem_map]
      rw [hle] at hlcell
      have hlbo : W2.heap.size ≤ bl := (O3.out.lt bl rfl).1
      have HS := Lib.hid (outZ_step H g k hlt)
      have hki : keepI H g (namesI H g)[k] = !clashT (H[(namesI H g)[k]].args.getD 0 .nil) (g.args.getD 0 .nil) := by
        unfold keepI
        rw [getD_at H _ hiH]
        simp [HGL.out]
      have HKI := Lib.hid hki
      clear hki hle
      generalize (namesI H g)[k] = i at *
      obtain ⟨b, off, a1, rfl, -, hcc, hta⟩ := HH.out.get i hiH
      obtain ⟨p1, q1, rfl, _⟩ := hta.shape
      have htl : H[i].args.length = g.args.length := by
        unfold headOf at hih
        simp only [Bool.and_eq_true, beq_iff_eq] at hih
        omega
      have htok : H[i].ok := HOK.out _ (List.getElem_mem _)
      have hgl := HGL.out
      generalize H[i] = t at *
      obtain ⟨b1, o1, a1, rfl, -, cu, tu⟩ := (TsAt.of_tm hta).get 0 (by omega)
      obtain ⟨b2, o2, a2, rfl, -, cv, tv⟩ := (TsAt.of_tm HG.out).get 0 hgl
      have hu0 : t.args.getD 0 .nil = t.args[0] := by rw [List.getD_eq_getElem?_getD, List.getElem?_eq_getElem (by omega)]; rfl
      have hv0 : g.args.getD 0 .nil = g.args[0] := by rw [List.getD_eq_getElem?_getD, List.getElem?_eq_getElem hgl]; rfl
      rw [hu0, hv0] at HKI
      have huok : t.args[0].ok := Tm.ok_args htok _ (List.getElem_mem _)
      have hvok : g.args[0].ok := Tm.ok_args HGO.out _ (List.getElem_mem _)
      obtain ⟨pu, qu, rfl, _⟩ := tu.shape
      obtain ⟨pv, qv, rfl, _⟩ := tv.shape
      have CCl : Hid (∀ W, Calls Try.prog 88 #[.agg #[.int .i64 t.args[0].kind, .int .i64 t.args[0].num, .string t.args[0].name, .slice pu t.args[0].args.length qu], .agg #[.int .i64 g.args[0].kind, .int .i64 g.args[0].num, .string g.args[0].name, .slice pv g.args[0].args.length qv]] W fun e w' => e = .returned (.bool (clashT t.args[0] g.args[0])) ∧ Below W.heap.size W w') := fun W => refClash_c _ _ _ _ _ _ W huok hvok
      have hltB := cu.lt
      have hltB2 := cv.lt
      have hltB3 := hcc.lt
      have hBWr : Below w.heap.size w wr := BB.out.trans (HW.out.mono (by omega))
      have kp : ∀ {x : Nat}, x < w.heap.size → wr.heap[x]? = w.heap[x]? := fun {x} hx => hBWr.block x hx
      have cu' := cu.block (kp hltB)
      have cv' := cv.block (kp hltB2)
      have ct' := (hcc.block (kp hltB3)).c3
      have cb' := ((XB.out.block (HW.out.block _ (by omega))).get 3 rfl).1
      have cl' := (World.cell?_of_block (a := ⟨bl, ol + k, none⟩) (HK1.out bl hlbo hlb)).trans hlcell
      have hwr0 : w.heap.size ≤ wr.heap.size := hBWr.size
      clear cu cv tu tv hu0 hv0 huok hvok htok hta hcc hih hlcell
      generalize t.args[0] = u at *
      generalize g.args[0] = v at *
      generalize clashT u v = cl at *
      simp only [Nat.zero_mul, Nat.add_zero] at cu' cv'
      have hS : Hid (∀ X, Below wr.heap.size wr X → X.cell? ⟨bl, ol + k, none⟩ = some (.int .i64 (i : Nat)) ∧ X.cell? ⟨b, off + i * 4 + 3, none⟩ = some (.slice (some ⟨b1, o1, none⟩) t.args.length q1) ∧ X.cell? ⟨w.heap.size, 3, none⟩ = some (.slice (some ⟨b2, o2, none⟩) g.args.length q0) ∧ (X.cell? ⟨b1, o1, none⟩ = some (.int .i64 u.kind) ∧ X.cell? ⟨b1, o1 + 1, none⟩ = some (.int .i64 u.num) ∧ X.cell? ⟨b1, o1 + 2, none⟩ = some (.string u.name) ∧ X.cell? ⟨b1, o1 + 3, none⟩ = some (.slice pu u.args.length qu)) ∧ (X.cell? ⟨b2, o2, none⟩ = some (.int .i64 v.kind) ∧ X.cell? ⟨b2, o2 + 1, none⟩ = some (.int .i64 v.num) ∧ X.cell? ⟨b2, o2 + 2, none⟩ = some (.string v.name) ∧ X.cell? ⟨b2, o2 + 3, none⟩ = some (.slice pv v.args.length qv))) := fun X hX => by
        have cu2 := cu'.block (hX.block _ cu'.lt)
        have cv2 := cv'.block (hX.block _ cv'.lt)
        have cc : ∀ {p : Addr} {y : Value}, wr.cell? p = some y → X.cell? p = some y := fun {p y} h => (hX.cell (p := p) (World.block_lt_of_cell? wr p h)).trans h
        exact ⟨cc cl', cc ct', cc cb', ⟨cu2.c0, cu2.c1, cu2.c2, cu2.c3⟩, cv2.c0, cv2.c1, cv2.c2, cv2.c3⟩
      have s0 := hS.out _ (Below.refl _ _)
      have hgi : (0 : Int) < g.args.length := by omega
      have hti : (0 : Int) < t.args.length := by omega
      have hkZ' : (k : Int) < (namedZ H g.name g.args.length H.length).length := by omega
      have hiH' : (i : Int) < H.length := by omega
      have hgne : ((g.args.length : Int) == 0) = false := beq_eq_false_iff_ne.2 (by omega)
      clear cu' cv' ct' cb' cl' kp hBWr
      go_upto_region 9 with (fail)
      go_region_held3 (fun W => W.cell? ⟨bl, ol + k, none⟩ = some (.int .i64 (i : Nat)) ∧ W.cell? ⟨b, off + i * 4 + 3, none⟩ = some (.slice (some ⟨b1, o1, none⟩) t.args.length q1) ∧ W.cell? ⟨w.heap.size, 3, none⟩ = some (.slice (some ⟨b2, o2, none⟩) g.args.length q0) ∧ (W.cell? ⟨b1, o1, none⟩ = some (.int .i64 u.kind) ∧ W.cell? ⟨b1, o1 + 1, none⟩ = some (.int .i64 u.num) ∧ W.cell? ⟨b1, o1 + 2, none⟩ = some (.string u.name) ∧ W.cell? ⟨b1, o1 + 3, none⟩ = some (.slice pu u.args.length qu)) ∧ (W.cell? ⟨b2, o2, none⟩ = some (.int .i64 v.kind) ∧ W.cell? ⟨b2, o2 + 1, none⟩ = some (.int .i64 v.num) ∧ W.cell? ⟨b2, o2 + 2, none⟩ = some (.string v.name) ∧ W.cell? ⟨b2, o2 + 3, none⟩ = some (.slice pv v.args.length qv)))
        ((first | (with_reducible exact s0) | (with_reducible exact hS.out _ P8.out) | (refine hS.out _ ?_; go_grown)))
        (first | (go_at_call 88; refine (CCl.out _).mono ?_; rintro e W8 ⟨rfl, bb⟩; have P8 : Hid (Below wr.heap.size wr W8) := Below.trans (B := wr.heap.size) (by go_grown) (bb.mono (by go_size)); clear bb))
      have k8 := (hS.out _ P8.out).1
      have hw8 : wr.heap.size ≤ W8.heap.size := P8.out.size
      have BW8 : Hid (Below (w.heap.size + 1) WB W8) := HW.out.trans (P8.out.mono (by omega))
      have O8 := Lib.hid (own_below HO.out P8.out)
      have K8 : Hid (∀ b, W2.heap.size ≤ b → b < W3.heap.size → W8.heap[b]? = W3.heap[b]?) := fun b h1 h2 => (P8.out.block b (by omega)).trans (HK1.out b h1 h2)
      obtain ⟨oa, oc, rfl, _⟩ := (SlAt.of_own O8.out).shape
      have hbl8 : bl < W8.heap.size := by omega
      clear s0 hS CCl
      cases cl with
      | true =>
        have HL2 : Hid (L = outZ H g (k + 1)) := by show _ = _; rw [HS.out, HKI.out, HL.out]; simp
        go_wp2
        go_roundg ((namesI H g).length - (k + 1))
        case measure => have := HN.out; omega
        case rel => exact ⟨k + 1, L, by omega, by go_num, by omega, rfl, HL2, O8, BW8, K8, HK2, Lib.hid (Nat.le_trans hk3 hw8)⟩
      | false =>
        have HL2 : Hid (L ++ [(i : Int)] = outZ H g (k + 1)) := by show _ = _; rw [HS.out, HKI.out, HL.out]; simp
        go_wp2_with (at_builtin; refine wpList_appendX rfl (.tmp 51) (.tmp 56) 29 rfl (w.heap.size + 1) 3 i0 (.int .i64 0) 1 8 Try.underlying29 hi hz0 hz1 hz2 rfl (by decide) _ L.length (L.map (Value.int .i64)) rfl O8.out _ _ rfl rfl rfl (one1 rfl) ⟨by omega, by omega⟩ (by omega) ?_; intro g5 cap5 W5 ho5 hb5 hk5 hl5; have R5 := Lib.hid ho5; have B5 := Lib.hid hb5; have K5 := Lib.hid hk5; have L5 := Lib.hid hl5; clear ho5 hb5 hk5 hl5)
        go_roundg ((namesI H g).length - (k + 1))
        case measure => have := HN.out; omega
        case rel =>
          have h5 := B5.out.size
          have HK7 : Hid (∀ g, (Value.slice (some ⟨g5, 0, none⟩) (L.length + 1) cap5).ownBlock = some g → g < W2.heap.size ∨ W3.heap.size ≤ g) := fun g e => by
            have e' : some g5 = some g := e
            injection e' with e'
            subst e'
            rcases L5.out with h | h
            · exact HK2.out _ h
            · right; omega
          have HK6 : Hid (∀ b, W2.heap.size ≤ b → b < W3.heap.size → W5.heap[b]? = W3.heap[b]?) := fun b h1 h2 => (K5.out b (by omega) (fun e => by rcases HK2.out b e with h | h <;> omega)).trans (K8.out b h1 h2)
          exact ⟨k + 1, L ++ [(i : Int)], by omega, by go_num, by simp; omega, rfl, HL2, Lib.hid (by simpa using R5.out), BW8.out.trans (B5.out.mono (Nat.le_refl _)), HK6, by simpa using HK7, Lib.hid (by show W3.heap.size ≤ _; omega)⟩
    · obtain rfl : k = (namesI H g).length := by omega
      have hge : ¬ (((namesI H g).length : Int) < (namedZ H g.name g.args.length H.length).length) := by rw [NE.out]; omega
      obtain ⟨oa, oc, rfl, _⟩ := (SlAt.of_own HO.out).shape
      go_wp2
      go_ret
      rw [← outZ_all, ← HL.out]
      exact ⟨_, _, rfl, SlAt.of_own HO.out, BB.out.trans (HW.out.mono (by omega))⟩
end Go.Proofs.Ytmffobadnmkpbaa
namespace Go.Proofs.Ytmffobadnmkpbaa
open Go.RowKit

set_option maxRecDepth 1000000 in
theorem whichN_c (vh : Value) (g : Tm) (ga : Value) (w : World) (hg : TmAt (fun _ => True) w g ga) (hgn : g.named = false) :
    Calls Try.prog 47 #[vh, tmV g ga] w (RetWhich [] w) := by
  obtain ⟨p0, q0, rfl, _⟩ := hg.shape
  obtain ⟨W0, hW0⟩ : ∃ W0, W0 = (w.alloc (.cells #[.int .i64 g.kind, .int .i64 g.num, .string g.name, .slice p0 g.args.length q0] 24)).alloc (.cells #[.slice none 0 0] 29) := ⟨_, rfl⟩
  have B0 : Hid (Below w.heap.size w W0) := by rw [hW0]; exact ((Below.refl _ _).alloc (Nat.le_refl _) _).alloc (by simp) _
  have X0 : Hid (BoxL W0 w.heap.size [.int .i64 g.kind, .int .i64 g.num, .string g.name, .slice p0 g.args.length q0]) := by
    rw [hW0]; exact (BoxL.mk' w #[.int .i64 g.kind, .int .i64 g.num, .string g.name, .slice p0 g.args.length q0] 24).below ((Below.refl (w.heap.size + 1) _).alloc (by simp) _) (by omega)
  have CNm : Hid (Calls Try.prog 38 #[.agg #[.int .i64 g.kind, .int .i64 g.num, .string g.name, .slice p0 g.args.length q0]] W0 fun e w' => e = .returned (.tuple #[.string g.name, .int .i64 g.args.length, .bool false]) ∧ Below W0.heap.size W0 w') := by
    have h := normName_c g p0 q0 W0
    rw [hgn] at h; exact h
  obtain ⟨x0, _⟩ := X0.out.get 0 rfl
  obtain ⟨x1, _⟩ := X0.out.get 1 rfl
  obtain ⟨x2, _⟩ := X0.out.get 2 rfl
  obtain ⟨x3, _⟩ := X0.out.get 3 rfl
  have HWE := Lib.hid hW0
  unfold tmV
  clear hg hgn hW0
  go_enter Try.func47, Try.ntmps47
  go_upto_region 2 with fail
  rw [← HWE.out]
  go_wp2_with (go_at_call 38; ((with_reducible refine CNm.out.mono ?_); rintro e W1 ⟨rfl, b1⟩; have B1 := Lib.hid b1; clear b1))
  go_ret
  exact ⟨none, 0, rfl, SlAt.nil, (B0.out.trans (B1.out.mono B0.out.size)).trans ((Below.refl _ _).alloc (by have h1 := B0.out.size; have h2 := B1.out.size; omega) _)⟩
set_option maxRecDepth 1000000 in
theorem refWhichN_c (vh : Value) (g : Tm) (ga : Value) (w : World) (hg : TmAt (fun _ => True) w g ga) (hgn : g.named = false) :
    Calls Try.prog 49 #[vh, tmV g ga] w (RetWhich [] w) := by
  obtain ⟨p0, q0, rfl, _⟩ := hg.shape
  obtain ⟨WB, hWB⟩ : ∃ WB, WB = w.alloc (.cells #[.int .i64 g.kind, .int .i64 g.num, .string g.name, .slice p0 g.args.length q0] 24) := ⟨_, rfl⟩
  obtain ⟨W0, hW0⟩ : ∃ W0, W0 = WB.alloc (.cells #[] 3) := ⟨_, rfl⟩
  have hsB : WB.heap.size = w.heap.size + 1 := by rw [hWB]; simp
  have BB : Hid (Below w.heap.size w WB) := by rw [hWB]; exact (Below.refl _ _).alloc (Nat.le_refl _) _
  have XB : Hid (BoxL WB w.heap.size [.int .i64 g.kind, .int .i64 g.num, .string g.name, .slice p0 g.args.length q0]) := by
    rw [hWB]; exact BoxL.mk' w #[.int .i64 g.kind, .int .i64 g.num, .string g.name, .slice p0 g.args.length q0] 24
  have B0 : Hid (Below (w.heap.size + 1) WB W0) := by rw [hW0]; exact (Below.refl _ _).alloc (by omega) _
  have R0 : Hid (W0.ownsRow (w.heap.size + 1) 3 1 (.slice (some ⟨w.heap.size + 1, 0, none⟩) 0 0) 0 []) := by
    have h := own_madeI WB
    rw [← hW0, hsB] at h; exact h
  have CNm : Hid (Calls Try.prog 42 #[.agg #[.int .i64 g.kind, .int .i64 g.num, .string g.name, .slice p0 g.args.length q0]] W0 fun e w' => e = .returned (.tuple #[.string g.name, .int .i64 g.args.length, .bool false]) ∧ Below W0.heap.size W0 w') := by
    have h := refName_c g p0 q0 W0
    rw [hgn] at h; exact h
  obtain ⟨x0, _⟩ := (XB.out.below B0.out (by omega)).get 0 rfl
  obtain ⟨x1, _⟩ := (XB.out.below B0.out (by omega)).get 1 rfl
  obtain ⟨x2, _⟩ := (XB.out.below B0.out (by omega)).get 2 rfl
  obtain ⟨x3, _⟩ := (XB.out.below B0.out (by omega)).get 3 rfl
  have HWB := Lib.hid hWB
  have HW0 := Lib.hid hW0
  have HSB := Lib.hid hsB
  unfold tmV
  clear hg hgn hWB hW0 hsB
  go_enter Try.func49, Try.ntmps49
  go_upto_region 2 with (fail)
  rw [← HWB.out, ← HW0.out]
  go_wp2_with (go_at_call 42; ((with_reducible refine CNm.out.mono ?_); rintro e W2 ⟨rfl, b2⟩; have B2 := Lib.hid b2; clear b2))
  go_ret
  exact ⟨_, _, rfl, SlAt.of_own (own_below R0.out B2.out), BB.out.trans ((B0.out.trans (B2.out.mono (by have h1 := B0.out.size; have h2 := HSB.out; omega))).mono (by omega))⟩
set_option maxRecDepth 1000000 in
set_option maxHeartbeats 6400000 in
theorem refWhichZ_c (vh : Value) (H : List Tm) (g : Tm) (ga : Value) (w : World) (hh : TsAt (fun _ => True) w vh H) (hl : H.length ≤ 4096) (hg : TmAt (fun _ => True) w g ga) (hgn : g.named = true) (hgl : g.args.length = 0) :
    Calls Try.prog 49 #[vh, tmV g ga] w (RetWhich ((whichI H g).map (fun (i : Nat) => (i : Int))) w) := by
  obtain ⟨ao, cap, rfl, _⟩ := hh.shape
  obtain ⟨p0, q0, rfl, _⟩ := hg.shape
  obtain ⟨i0, hi, hz0, hz1, hz2⟩ := info_parts Try.infoInt
  obtain ⟨WB, hWB⟩ : ∃ WB, WB = w.alloc (.cells #[.int .i64 g.kind, .int .i64 g.num, .string g.name, .slice p0 g.args.length q0] 24) := ⟨_, rfl⟩
  obtain ⟨W0, hW0⟩ : ∃ W0, W0 = WB.alloc (.cells #[] 3) := ⟨_, rfl⟩
  have hsB : WB.heap.size = w.heap.size + 1 := by rw [hWB]; simp
  have hs0 : W0.heap.size = w.heap.size + 2 := by rw [hW0]; simp [hsB]
  have BB : Hid (Below w.heap.size w WB) := by rw [hWB]; exact (Below.refl _ _).alloc (Nat.le_refl _) _
  have XB : Hid (BoxL WB w.heap.size [.int .i64 g.kind, .int .i64 g.num, .string g.name, .slice p0 g.args.length q0]) := by
    rw [hWB]; exact BoxL.mk' w #[.int .i64 g.kind, .int .i64 g.num, .string g.name, .slice p0 g.args.length q0] 24
  have B0 : Hid (Below (w.heap.size + 1) WB W0) := by rw [hW0]; exact (Below.refl _ _).alloc (by omega) _
  have R0 : Hid (W0.ownsRow (w.heap.size + 1) 3 1 (.slice (some ⟨w.heap.size + 1, 0, none⟩) 0 0) 0 []) := by
    have h := own_madeI WB
    rw [← hW0, hsB] at h; exact h
  have CNm : Hid (Calls Try.prog 42 #[.agg #[.int .i64 g.kind, .int .i64 g.num, .string g.name, .slice p0 g.args.length q0]] W0 fun e w' => e = .returned (.tuple #[.string g.name, .int .i64 g.args.length, .bool true]) ∧ Below W0.heap.size W0 w') := by
    have h := refName_c g p0 q0 W0
    rw [hgn] at h; exact h
  obtain ⟨x0, _⟩ := (XB.out.below B0.out (by omega)).get 0 rfl
  obtain ⟨x1, _⟩ := (XB.out.below B0.out (by omega)).get 1 rfl
  obtain ⟨x2, _⟩ := (XB.out.below B0.out (by omega)).get 2 rfl
  obtain ⟨x3, _⟩ := (XB.out.below B0.out (by omega)).get 3 rfl
  have HH := Lib.hid hh
  have HG := Lib.hid hg
  have HWB := Lib.hid hWB
  have HW0 := Lib.hid hW0
  have HS0 := Lib.hid hs0
  have HSB := Lib.hid hsB
  have HGL := Lib.hid hgl
  unfold tmV
  clear hh hg hgn hWB hW0 hs0 hsB hgl
  go_enter Try.func49, Try.ntmps49
  go_upto_region 2 with (fail)
  rw [← HWB.out, ← HW0.out]
  go_upto_region 3 with (go_at_call 42; ((with_reducible refine CNm.out.mono ?_); rintro e W2 ⟨rfl, b2⟩; have B2 := Lib.hid b2; clear b2))
  clear x0 x1 x2 x3 CNm
  have CNd := Lib.hid (refNamed_c (.slice ao H.length cap) H g.name g.args.length W2 (HH.out.later (BB.out.trans (B0.out.mono (by omega) |>.trans (B2.out.mono (by have := HS0.out; omega))))) hl)
  go_upto_region 6 with (go_at_call 87; ((with_reducible refine CNd.out.mono ?_); rintro e W3 ⟨la, lc, rfl, ho3, b3⟩; have O3 := Lib.hid ho3; have B3 := Lib.hid b3; clear ho3 b3))
  have hs0 := HS0.out
  have hsB := HSB.out
  have hb2 := B2.out.size
  have hb3 := B3.out.size
  have BW3 : Hid (Below (w.heap.size + 1) WB W3) := B0.out.trans ((B2.out.mono (by omega)).trans (B3.out.mono (by omega)))
  have NE : Hid ((namedZ H g.name g.args.length H.length).length = (namesI H g).length) := by show _ = _; rw [namesZ_eq, List.length_map]
  have NL := namedZ_len H g.name g.args.length H.length
  have R3 : Hid (W3.ownsRow (w.heap.size + 1) 3 1 (.slice (some ⟨w.heap.size + 1, 0, none⟩) 0 0) 0 []) := own_below (own_below R0.out B2.out) B3.out
  clear R0 CNd
  go_wp2
  go_loopg [5, 10] (namesI H g).length (fun f o s wr => ∃ (k : Nat) (L : List Int), k ≤ (namesI H g).length ∧ s = .int .i64 k ∧ L.length ≤ k ∧ Hid (f = (namesI H g).length - k) ∧ Hid (L = outZ H g k) ∧ Hid (wr.ownsRow (w.heap.size + 1) 3 1 o L.length (L.map (Value.int .i64))) ∧ Hid (Below (w.heap.size + 1) WB wr) ∧
    Hid (∀ b, W2.heap.size ≤ b → b < W3.heap.size → wr.heap[b]? = W3.heap[b]?) ∧ Hid (∀ g, o.ownBlock = some g → g < W2.heap.size ∨ W3.heap.size ≤ g) ∧ Hid (W3.heap.size ≤ wr.heap.size))
  case atStart => exact ⟨0, [], by omega, rfl, by simp, rfl, rfl, R3.out, BW3.out, fun b _ _ => rfl, (fun g e => by have : some (w.heap.size + 1) = some g := e; injection this with this; omega), Nat.le_refl _⟩
  case round =>
    obtain ⟨k, L, hk, rfl, hLk, HN, HL, HO, HW, HK1, HK2, HK3⟩ := hrel
    have hk3 := HK3.out
    by_cases hlt : k < (namesI H g).length
    · obtain ⟨hiH, hih⟩ := namesI_at H g k hlt
      have hkZ : k < (namedZ H g.name g.args.length H.length).length := by rw [NE.out]; exact hlt
      obtain ⟨bl, ol, rfl, hlc, hlb, hlcell⟩ := IsAt.getR (SlAt.of_own O3.out) k hkZ
      have hle : (namedZ H g.name g.args.length H.length)[k] = ((namesI H g)[k] : Int) := by simp only [namesZ_eq, List.getElem_map]
      rw [hle] at hlcell
      have hlbo : W2.heap.size ≤ bl := (O3.out.lt bl rfl).1
      have HS := Lib.hid (outZ_step H g k hlt)
      have HKI : Hid (keepI H g (namesI H g)[k] = true) := by show _ = _; unfold keepI; simp [HGL.out]
      clear hle
      generalize (namesI H g)[k] = i at *
      have cl' := (World.cell?_of_block (a := ⟨bl, ol + k, none⟩) (HK1.out bl hlbo hlb)).trans hlcell
      have hkZ' : (k : Int) < (namedZ H g.name g.args.length H.length).length := by omega
      have hgne : ((g.args.length : Int) == 0) = true := by have := HGL.out; simp; exact List.eq_nil_of_length_eq_zero this
      have hblr : bl < wr.heap.size := by omega
      clear hlcell hih
      go_upto_region 9 with (fail)
      go_region
      have c8 : wr.drew.cell? ⟨bl, ol + k, none⟩ = some (.int .i64 (i : Nat)) := cl'
      obtain ⟨W8, hW8⟩ : ∃ W8, W8 = wr.drew := ⟨_, rfl⟩
      have P8 : Hid (Below wr.heap.size wr W8) := by rw [hW8]; exact (Below.refl _ _).drew
      rw [← hW8] at c8
      go_upto_region 10 with (fail)
      rw [← hW8]
      clear hW8 cl'
      have k8 := c8
      have hw8 : wr.heap.size ≤ W8.heap.size := P8.out.size
      have BW8 : Hid (Below (w.heap.size + 1) WB W8) := HW.out.trans (P8.out.mono (by omega))
      have O8 := Lib.hid (own_below HO.out P8.out)
      have K8 : Hid (∀ b, W2.heap.size ≤ b → b < W3.heap.size → W8.heap[b]? = W3.heap[b]?) := fun b h1 h2 => (P8.out.block b (by omega)).trans (HK1.out b h1 h2)
      obtain ⟨oa, oc, rfl, _⟩ := (SlAt.of_own O8.out).shape
      have hbl8 : bl < W8.heap.size := by omega
      have HL2 : Hid (L ++ [(i : Int)] = outZ H g (k + 1)) := by show _ = _; rw [HS.out, HKI.out, HL.out]; simp
      go_wp2_with (at_builtin; refine wpList_appendX rfl (.tmp 51) (.tmp 56) 29 rfl (w.heap.size + 1) 3 i0 (.int .i64 0) 1 8 Try.underlying29 hi hz0 hz1 hz2 rfl (by decide) _ L.length (L.map (Value.int .i64)) rfl O8.out _ _ rfl rfl rfl (one1 rfl) ⟨by omega, by omega⟩ (by omega) ?_; intro g5 cap5 W5 ho5 hb5 hk5 hl5; have R5 := Lib.hid ho5; have B5 := Lib.hid hb5; have K5 := Lib.hid hk5; have L5 := Lib.hid hl5; clear ho5 hb5 hk5 hl5)
      go_roundg ((namesI H g).length - (k + 1))
      case measure => have := HN.out; omega
      case rel =>
        have h5 := B5.out.size
        have HK7 : Hid (∀ g, (Value.slice (some ⟨g5, 0, none⟩) (L.length + 1) cap5).ownBlock = some g → g < W2.heap.size ∨ W3.heap.size ≤ g) := fun g e => by
          have e' : some g5 = some g := e
          injection e' with e'
          subst e'
          rcases L5.out with h | h
          · exact HK2.out _ h
          · right; omega
        have HK6 : Hid (∀ b, W2.heap.size ≤ b → b < W3.heap.size → W5.heap[b]? = W3.heap[b]?) := fun b h1 h2 => (K5.out b (by omega) (fun e => by rcases HK2.out b e with h | h <;> omega)).trans (K8.out b h1 h2)
        exact ⟨k + 1, L ++ [(i : Int)], by omega, by go_num, by simp; omega, rfl, HL2, Lib.hid (by simpa using R5.out), BW8.out.trans (B5.out.mono (Nat.le_refl _)), HK6, by simpa using HK7, Lib.hid (by show W3.heap.size ≤ _; omega)⟩
    · obtain rfl : k = (namesI H g).length := by omega
      have hge : ¬ (((namesI H g).length : Int) < (namedZ H g.name g.args.length H.length).length) := by rw [NE.out]; omega
      obtain ⟨oa, oc, rfl, _⟩ := (SlAt.of_own HO.out).shape
      go_wp2
      go_ret
      rw [← outZ_all, ← HL.out]
      exact ⟨_, _, rfl, SlAt.of_own HO.out, BB.out.trans (HW.out.mono (by omega))⟩
end Go.Proofs.Ytmffobadnmkpbaa
namespace Go.Proofs.Ytmffobadnmkpbaa
open Go.RowKit

/-- the places of the heads that a goal may come to -/
def whichA (H : List Tm) (g : Tm) : List Int := if g.named then (whichI H g).map (fun (i : Nat) => (i : Int)) else []
theorem which_all (vh : Value) (H : List Tm) (g : Tm) (ga : Value) (w : World) (hh : TsAt (fun _ => True) w vh H) (hl : H.length ≤ 4096) (hg : TmAt (fun _ => True) w g ga) (hok : ∀ t ∈ H, t.ok) (hgo : g.ok) :
    Calls Try.prog 47 #[vh, tmV g ga] w (RetWhich (whichA H g) w) := by
  unfold whichA
  cases hn : g.named with
  | false => exact whichN_c vh g ga w hg hn
  | true =>
    rcases Nat.eq_zero_or_pos g.args.length with h0 | h0
    · exact whichZ_c vh H g ga w hh hl hg hn h0
    · exact which_c vh H g ga w hh hl hg hok hgo hn h0
theorem refWhich_all (vh : Value) (H : List Tm) (g : Tm) (ga : Value) (w : World) (hh : TsAt (fun _ => True) w vh H) (hl : H.length ≤ 4096) (hg : TmAt (fun _ => True) w g ga) (hok : ∀ t ∈ H, t.ok) (hgo : g.ok) :
    Calls Try.prog 49 #[vh, tmV g ga] w (RetWhich (whichA H g) w) := by
  unfold whichA
  cases hn : g.named with
  | false => exact refWhichN_c vh g ga w hg hn
  | true =>
    rcases Nat.eq_zero_or_pos g.args.length with h0 | h0
    · exact refWhichZ_c vh H g ga w hh hl hg hn h0
    · exact refWhich_c vh H g ga w hh hl hg hok hgo hn h0
/-- a rising list of places of the first n, walked along: where place k is there, the walk's own place moves on -/
theorem filter_walk (p : Nat → Bool) (n k : Nat) (hk : k < n) : (((List.range n).filter p)[((List.range k).filter p).length]? = some k) ↔ p k = true := by
  have e : List.range n = List.range k ++ (List.range (n - k)).map (k + ·) := by
    apply List.ext_getElem?
    intro i
    rw [List.getElem?_append]
    by_cases h1 : i < k
    · simp [h1, Nat.lt_trans h1 hk]
    · by_cases h2 : i < n
      · have h3 : i - k < n - k := by omega
        have h4 : k + (i - k) = i := by omega
        simp [h1, h2, h3, h4]
      · have h3 : ¬ i - k < n - k := by omega
        rw [List.getElem?_eq_none (by simp; omega), if_neg (by simpa using h1), List.getElem?_eq_none (by simp; omega)]
  rw [e, List.filter_append, List.getElem?_append_right (Nat.le_refl _), Nat.sub_self]
  have e2 : (List.range (n - k)).map (k + ·) = k :: (List.range (n - k - 1)).map (fun i => k + (i + 1)) := by
    rw [show n - k = (n - k - 1) + 1 by omega, List.range_succ_eq_map]
    simp [Function.comp]
  rw [e2, List.filter_cons]
  cases hp : p k with
  | true => simp
  | false =>
    simp only [Bool.false_eq_true, if_false, iff_false]
    intro h
    have hm := List.mem_of_getElem? h
    rw [List.mem_filter] at hm
    simp [hp] at hm
end Go.Proofs.Ytmffobadnmkpbaa
namespace Go.Proofs.Ytmffobadnmkpbaa
open Go.RowKit

def bdC (x : Int × Tm × Value) : List Value := [.int .i64 x.1, .int .i64 x.2.1.kind, .int .i64 x.2.1.num, .string x.2.1.name, x.2.2]
def bdCs (L : List (Int × Tm × Value)) : List Value := L.flatMap bdC
theorem bdCs_len (L : List (Int × Tm × Value)) : (bdCs L).length = L.length * 5 := by
  induction L with
  | nil => rfl
  | cons a l ih => simp only [bdCs, List.flatMap_cons, List.length_append, List.length_cons] at *; rw [ih]; simp [bdC]; omega
theorem bdCs_snoc (L : List (Int × Tm × Value)) (x : Int × Tm × Value) : bdCs (L ++ [x]) = bdCs L ++ bdC x := by simp [bdCs]
theorem bdCs_at (l : List (Int × Tm × Value)) (i : Nat) (h : i < l.length) : ∀ j, j < 5 → (bdCs l)[i * 5 + j]? = (bdC l[i])[j]? := by
  induction l generalizing i with
  | nil => simp at h
  | cons a l ih =>
    intro j hj
    have e : bdCs (a :: l) = bdC a ++ bdCs l := by simp [bdCs]
    have hl : (bdC a).length = 5 := rfl
    cases i with
    | zero => rw [e, List.getElem?_append_left (by omega)]; simp
    | succ i =>
      rw [e, List.getElem?_append_right (by omega), hl, show (i + 1) * 5 + j - 5 = i * 5 + j by omega, ih i (by simpa using h) j hj]
      simp
/-- a list of bindings lies there -/
structure BsAt (w : World) (v : Value) (L : List (Int × Tm × Value)) : Prop where
  sl : SlAt w 5 v L.length (bdCs L)
  tms : ∀ x ∈ L, TmAt (fun _ => True) w x.2.1 x.2.2
theorem BsAt.later {w w' : World} {v : Value} {L : List (Int × Tm × Value)} (h : BsAt w v L) (hb : Below w.heap.size w w') : BsAt w' v L := ⟨h.sl.below hb, fun x hx => (h.tms x hx).later hb⟩
theorem BsAt.shape {w : World} {v : Value} {L : List (Int × Tm × Value)} (h : BsAt w v L) : ∃ ao cap, v = .slice ao L.length cap ∧ L.length ≤ cap ∧ cap ≤ maxLen := h.sl.shape
theorem BsAt.get {w : World} {ao : Option Addr} {n cap : Nat} {L : List (Int × Tm × Value)} (h : BsAt w (.slice ao n cap) L) (k : Nat) (hk : k < L.length) :
    ∃ b off, ao = some ⟨b, off, none⟩ ∧ b < w.heap.size ∧ w.cell? ⟨b, off + k * 5, none⟩ = some (.int .i64 L[k].1) ∧ CellsT w b (off + k * 5 + 1) L[k].2.1 L[k].2.2 ∧ TmAt (fun _ => True) w L[k].2.1 L[k].2.2 := by
  obtain ⟨b, off, cap', hv, _, _, hb, hc⟩ := h.sl.pos (by omega)
  simp only [Value.slice.injEq] at hv
  obtain ⟨rfl, -, -⟩ := hv
  have q := bdCs_at L k hk
  have e0 := hc (k * 5) (by omega)
  have e1 := hc (k * 5 + 1) (by omega)
  have e2 := hc (k * 5 + 2) (by omega)
  have e3 := hc (k * 5 + 3) (by omega)
  have e4 := hc (k * 5 + 4) (by omega)
  have q0 := q 0 (by omega)
  rw [Nat.add_zero] at q0
  rw [q0] at e0
  rw [q 1 (by omega)] at e1
  rw [q 2 (by omega)] at e2
  rw [q 3 (by omega)] at e3
  rw [q 4 (by omega)] at e4
  refine ⟨b, off, rfl, hb, by rw [e0]; rfl, ⟨?_, ?_, ?_, ?_⟩, h.tms _ (List.getElem_mem hk)⟩
  · rw [show off + k * 5 + 1 = off + (k * 5 + 1) by omega, e1]; rfl
  · rw [show off + k * 5 + 1 + 1 = off + (k * 5 + 2) by omega, e2]; rfl
  · rw [show off + k * 5 + 1 + 2 = off + (k * 5 + 3) by omega, e3]; rfl
  · rw [show off + k * 5 + 1 + 3 = off + (k * 5 + 4) by omega, e4]; rfl
/-- what a variable is bound to -/
def findB (L : List (Int × Tm × Value)) (n : Int) : Option (Tm × Value) := (L.find? fun x => x.1 == n).map Prod.snd
def findT (L : List (Int × Tm × Value)) (n : Int) : Tm := ((findB L n).map Prod.fst).getD .nil
def findV (L : List (Int × Tm × Value)) (n : Int) : Value := ((findB L n).map Prod.snd).getD (.slice none 0 0)
theorem findB_at {L : List (Int × Tm × Value)} {n : Int} {w : World} (h : ∀ x ∈ L, TmAt (fun _ => True) w x.2.1 x.2.2) : TmAt (fun _ => True) w (findT L n) (findV L n) := by
  unfold findT findV findB
  cases e : L.find? (fun x => x.1 == n) with
  | none => exact .leaf rfl
  | some x => exact h x (List.mem_of_find?_eq_some e)
theorem findB_none {L : List (Int × Tm × Value)} {n : Int} (h : ∀ x ∈ L, x.1 ≠ n) : findB L n = none := by
  unfold findB
  rw [List.find?_eq_none.2 (fun x hx => by simpa using h x hx)]; rfl
theorem findB_here {L : List (Int × Tm × Value)} {n : Int} {k : Nat} (hk : k < L.length) (h : ∀ x ∈ L.take k, x.1 ≠ n) (he : L[k].1 = n) : findB L n = some L[k].2 := by
  have e : L = L.take k ++ L[k] :: L.drop (k + 1) := by rw [← List.drop_eq_getElem_cons hk, List.take_append_drop]
  have e2 : L.find? (fun x => x.1 == n) = (L.take k ++ L[k] :: L.drop (k + 1)).find? (fun x => x.1 == n) := congrArg (List.find? fun x => x.1 == n) e
  unfold findB
  rw [e2, List.find?_append, List.find?_eq_none.2 (fun x hx => by simpa using h x hx), List.find?_cons]
  simp only [Option.none_or, he, beq_self_eq_true]
  rfl
theorem res0 {w W W9 : World} {x0 x1 x2 x3 y0 y1 y2 y3 : Value} (hx : BoxL W w.heap.size [x0, x1, x2, x3]) (hb : Below w.heap.size w W)
    (h9 : W9 = ((((W.setCell ⟨w.heap.size, 0, none⟩ y0).setCell ⟨w.heap.size, 1, none⟩ y1).setCell ⟨w.heap.size, 2, none⟩ y2).setCell ⟨w.heap.size, 3, none⟩ y3)) : BoxL W9 w.heap.size [y0, y1, y2, y3] ∧ Below w.heap.size w W9 := by
  subst h9; exact ⟨box4set hx _ _ _ _, below4 hb (Nat.le_refl _) _ _ _ _⟩
/-- what find tells -/
def RetFind (L : List (Int × Tm × Value)) (n : Int) (w : World) (e : Ending) (w' : World) : Prop :=
  ∃ ao cap, e = .returned (.tuple #[.agg #[.int .i64 (findT L n).kind, .int .i64 (findT L n).num, .string (findT L n).name, .slice ao (findT L n).args.length cap], .bool (findB L n).isSome]) ∧ findV L n = .slice ao (findT L n).args.length cap ∧ Below w.heap.size w w'
set_option maxRecDepth 100000 in
set_option maxHeartbeats 1600000 in
theorem find_c (v : Value) (L : List (Int × Tm × Value)) (n : Int) (w : World) (h : BsAt w v L) (hl : L.length ≤ 1000000) :
    Calls Try.prog 146 #[v, .int .i64 n] w (RetFind L n w) := by
  obtain ⟨ao, cap, rfl, _⟩ := h.shape
  have HL := Lib.hid h
  obtain ⟨V, hV⟩ : ∃ V, V = w.alloc (.cells #[.int .i64 0, .int .i64 0, .string ⟨#[]⟩, .slice none 0 0] 24) := ⟨_, rfl⟩
  have BV : Hid (Below w.heap.size w V) := by rw [hV]; exact (Below.refl _ _).alloc (Nat.le_refl _) _
  have ZV : Hid (BoxL V w.heap.size [.int .i64 0, .int .i64 0, .string ⟨#[]⟩, .slice none 0 0]) := by rw [hV]; exact BoxL.mk' w #[.int .i64 0, .int .i64 0, .string ⟨#[]⟩, .slice none 0 0] 24
  have HV := Lib.hid hV
  clear h hV
  go_enter Try.func146, Try.ntmps146
  go_upto_region 2 with fail
  rw [← HV.out]
  clear HV
  obtain ⟨⟨z0, z1, z2, z3⟩, f0, f1, f2, f3⟩ := box4c ZV.out
  go_wp2
  go_loopg [6] L.length (fun m s wr => ∃ k : Nat, k ≤ L.length ∧ s = .int .i64 k ∧ Hid (m = L.length - k) ∧ Hid (∀ x ∈ L.take k, x.1 ≠ n) ∧ Hid (wr = V))
  case atStart => exact ⟨0, by omega, rfl, rfl, Lib.hid (by simp), rfl⟩
  case round =>
    obtain ⟨k, hk, rfl, HN, HE, HW⟩ := hrel
    obtain rfl := HW.out
    by_cases hlt : k < L.length
    · obtain ⟨b, off, rfl, hb, c0, ⟨c1, c2, c3, c4⟩, hta⟩ := (HL.out.later BV.out).get k hlt
      obtain ⟨p1, q1, hp1, _⟩ := hta.shape
      rw [hp1] at c4
      have hfar : b ≠ w.heap.size := by
        obtain ⟨b', off', e', hb', _⟩ := HL.out.get k hlt
        simp only [Option.some.injEq, Addr.mk.injEq, and_true] at e'
        omega
      have HS : Hid (L[k].1 ≠ n → ∀ x ∈ L.take (k + 1), x.1 ≠ n) := fun h x hx => by
        rw [List.take_succ_eq_append_getElem hlt, List.mem_append] at hx
        rcases hx with hx | hx
        · exact HE.out x hx
        · rw [List.mem_singleton] at hx; subst hx; exact h
      have HF : Hid (L[k].1 = n → findB L n = some L[k].2) := fun h => findB_here hlt HE.out h
      have HT := Lib.hid hta
      generalize L[k] = y at *
      obtain ⟨y1, t, yv⟩ := y
      dsimp only at *
      subst hp1
      by_cases hy : y1 = n
      · have hyb : (y1 == n) = true := by simp [hy]
        have HF2 := Lib.hid (HF.out hy)
        clear hy HF HS
        go_wp2
        refine post_gen7 fun W9 hW9 => ?_
        have hr := res0 ZV.out BV.out hW9
        clear z0 z1 z2 z3 f0 f1 f2 f3
        obtain ⟨⟨z0, z1, z2, z3⟩, -⟩ := box4c hr.1
        refine bodyPost_ret (v := .tuple #[.agg #[.int .i64 t.kind, .int .i64 t.num, .string t.name, .slice p1 t.args.length q1], .bool true]) (by simp [results, Try.results146, go_sem, z0, z1, z2, z3]; try rfl) rfl ?_
        exact ⟨p1, q1, by simp [findT, HF2.out]; try rfl, by simp [findT, findV, HF2.out]; try rfl, hr.2⟩
      · have hyb : (y1 == n) = false := by simp [hy]
        have HS2 := Lib.hid (HS.out hy)
        clear hy HF HS
        go_wp2
        go_roundg (L.length - (k + 1))
        case measure => have := HN.out; omega
        case rel => exact ⟨k + 1, by omega, by go_num, rfl, HS2, rfl⟩
    · obtain rfl : k = L.length := by omega
      have HF2 : Hid (findB L n = none) := findB_none (by have h := HE.out; rwa [List.take_length] at h)
      go_wp2
      refine post_gen7 fun W9 hW9 => ?_
      have hr := res0 ZV.out BV.out hW9
      clear z0 z1 z2 z3 f0 f1 f2 f3
      obtain ⟨⟨z0, z1, z2, z3⟩, -⟩ := box4c hr.1
      refine bodyPost_ret (v := .tuple #[.agg #[.int .i64 0, .int .i64 0, .string ⟨#[]⟩, .slice none 0 0], .bool false]) (by simp [results, Try.results146, go_sem, z0, z1, z2, z3]; try rfl) rfl ?_
      exact ⟨none, 0, by simp [findT, HF2.out]; exact ⟨rfl, rfl, rfl, rfl⟩, by simp [findT, findV, HF2.out]; try rfl, hr.2⟩
end Go.Proofs.Ytmffobadnmkpbaa
namespace Go.Proofs.Ytmffobadnmkpbaa
open Go.RowKit

/-- what walk tells: the term itself, or one of those that are bound to -/
def RetWalk (L : List (Int × Tm × Value)) (t : Tm) (a : Value) (w : World) (e : Ending) (w' : World) : Prop :=
  ∃ (t' : Tm) (ao : Option Addr) (cap : Nat), e = .returned (.agg #[.int .i64 t'.kind, .int .i64 t'.num, .string t'.name, .slice ao t'.args.length cap]) ∧ ((t' = t ∧ Value.slice ao t'.args.length cap = a) ∨ (t.kind = 1 ∧ ∃ x ∈ L, x.2 = (t', Value.slice ao t'.args.length cap))) ∧ Below w.heap.size w w'
def cells4b (t : Tm) (a : Value) : List Value := [.int .i64 t.kind, .int .i64 t.num, .string t.name, a]
/-- what walk's loop holds on to -/
structure WkL (w wr : World) (t : Tm) (a : Value) : Prop where
  bx : BoxL wr w.heap.size (cells4b t a)
  rx : BoxL wr (w.heap.size + 1) [.int .i64 0, .int .i64 0, .string ⟨#[]⟩, .slice none 0 0]
  bel : Below w.heap.size w wr
  sz : w.heap.size + 2 ≤ wr.heap.size
theorem WkL.below {w wr wr' : World} {t : Tm} {a : Value} (h : WkL w wr t a) (hb : Below wr.heap.size wr wr') : WkL w wr' t a := by
  have hs := h.sz
  exact ⟨h.bx.below hb (by omega), h.rx.below hb (by omega), h.bel.trans (hb.mono (by omega)), Nat.le_trans hs hb.size⟩
theorem WkL.put {w wr : World} {t t' : Tm} {a a' : Value} (h : WkL w wr t a) : WkL w ((((wr.setCell ⟨w.heap.size, 0, none⟩ (.int .i64 t'.kind)).setCell ⟨w.heap.size, 1, none⟩ (.int .i64 t'.num)).setCell ⟨w.heap.size, 2, none⟩ (.string t'.name)).setCell ⟨w.heap.size, 3, none⟩ a') t' a' :=
  ⟨box4set h.bx _ _ _ _, h.rx.block (heap_set4 _ _ _ _ _ _ (by omega)), below4 h.bel (Nat.le_refl _) _ _ _ _, by have := h.sz; simpa using this⟩
theorem WkL.res {w W W9 : World} {t : Tm} {a : Value} (h : WkL w W t a) (h9 : W9 = ((((W.setCell ⟨w.heap.size + 1, 0, none⟩ (.int .i64 t.kind)).setCell ⟨w.heap.size + 1, 1, none⟩ (.int .i64 t.num)).setCell ⟨w.heap.size + 1, 2, none⟩ (.string t.name)).setCell ⟨w.heap.size + 1, 3, none⟩ a)) : BoxL W9 (w.heap.size + 1) (cells4b t a) ∧ Below w.heap.size w W9 := by
  subst h9; exact ⟨box4set h.rx _ _ _ _, below4 h.bel (Nat.le_succ _) _ _ _ _⟩
theorem findB_mem {L : List (Int × Tm × Value)} {n : Int} (h : (findB L n).isSome = true) : ∃ x ∈ L, x.2 = (findT L n, findV L n) := by
  unfold findT findV findB at *
  cases e : L.find? (fun x => x.1 == n) with
  | none => rw [e] at h; simp at h
  | some x => exact ⟨x, List.mem_of_find?_eq_some e, by simp⟩
set_option maxRecDepth 100000 in
set_option maxHeartbeats 1600000 in
theorem walk_c (v : Value) (L : List (Int × Tm × Value)) (t : Tm) (a : Value) (w : World) (h : BsAt w v L) (hl : L.length ≤ 1000000) (ht : TmAt (fun _ => True) w t a) :
    Calls Try.prog 115 #[v, tmV t a] w (RetWalk L t a w) := by
  obtain ⟨ao, cap, rfl, _⟩ := h.shape
  obtain ⟨ta, tc, rfl, _⟩ := ht.shape
  have HL := Lib.hid h
  obtain ⟨V, hV⟩ : ∃ V, V = (w.alloc (.cells #[.int .i64 t.kind, .int .i64 t.num, .string t.name, .slice ta t.args.length tc] 24)).alloc (.cells #[.int .i64 0, .int .i64 0, .string ⟨#[]⟩, .slice none 0 0] 24) := ⟨_, rfl⟩
  have al : ∀ (W : World) (o : Obj) (B : Nat), B ≤ W.heap.size → Below B W (W.alloc o) := fun W o B h => (Below.refl B W).alloc h o
  have AL := Lib.hid al
  have K0 : Hid (WkL w V t (.slice ta t.args.length tc)) := by
    rw [hV]
    have b1 := BoxL.mk' (w.alloc (.cells #[.int .i64 t.kind, .int .i64 t.num, .string t.name, .slice ta t.args.length tc] 24)) #[.int .i64 0, .int .i64 0, .string ⟨#[]⟩, .slice none 0 0] 24
    simp only [World.size_alloc] at b1
    exact ⟨(BoxL.mk' w #[.int .i64 t.kind, .int .i64 t.num, .string t.name, .slice ta t.args.length tc] 24).below (al _ _ (w.heap.size + 1) (by simp)) (by omega), b1, (al _ _ _ (Nat.le_refl _)).trans (al _ _ _ (by simp)), by simp⟩
  have HV := Lib.hid hV
  have HT0 := Lib.hid ht
  unfold tmV
  clear h ht hV al
  go_enter Try.func115, Try.ntmps115
  go_upto_region 1 with fail
  rw [← HV.out]
  clear HV
  go_wp2
  go_loopg [5] (L.length + 1) (fun m s wr => ∃ (k : Nat) (t' : Tm) (pa : Option Addr) (pc : Nat), k ≤ L.length + 1 ∧ s = .int .i64 k ∧ Hid (m = L.length + 1 - k) ∧ Hid ((t' = t ∧ Value.slice pa t'.args.length pc = .slice ta t.args.length tc) ∨ (t.kind = 1 ∧ ∃ x ∈ L, x.2 = (t', Value.slice pa t'.args.length pc))) ∧ Hid (WkL w wr t' (.slice pa t'.args.length pc)))
  case atStart => exact ⟨0, t, ta, tc, by omega, rfl, rfl, .inl ⟨rfl, rfl⟩, K0⟩
  case round =>
    obtain ⟨k, t', pa, pc, hk, rfl, HN, HD, HW⟩ := hrel
    obtain ⟨⟨x0, x1, x2, x3⟩, g0, g1, g2, g3⟩ := box4c HW.out.bx
    obtain ⟨⟨z0, z1, z2, z3⟩, f0, f1, f2, f3⟩ := box4c HW.out.rx
    have hbs := HW.out.sz
    by_cases hlt : k ≤ L.length
    · have hki : (k : Int) ≤ L.length := by omega
      by_cases hkd : t'.kind = 1
      · have hkb : (t'.kind == 1) = true := by simp [hkd]
        have CF := Lib.hid (fun W (hW : Below w.heap.size w W) => find_c _ L t'.num W (HL.out.later hW) hl)
        have HFT : Hid ((findB L t'.num).isSome = true → ∃ x ∈ L, x.2 = (findT L t'.num, findV L t'.num)) := findB_mem
        have HK1 : Hid (t.kind = 1) := by
          rcases HD.out with h | h
          · show _ = _; rw [← h.1]; exact hkd
          · exact h.1
        clear hkd
        unfold RetFind at CF
        generalize (findB L t'.num).isSome = r at *
        generalize findT L t'.num = G at *
        generalize findV L t'.num = gv at *
        cases r with
        | false =>
          go_upto_region 6 with (first | (go_at_call 146; ((with_reducible refine (CF.out _ HW.out.bel).mono ?_); rintro e W2 ⟨fa, fc, rfl, rfl, bb⟩; have K2 := Lib.hid (HW.out.below bb); have K3 := Lib.hid (K2.out.below (AL.out W2 (.cells #[.int .i64 G.kind, .int .i64 G.num, .string G.name, .slice fa G.args.length fc] 24) _ (Nat.le_refl _))); clear bb)))
          clear x0 x1 x2 x3 z0 z1 z2 z3 f0 f1 f2 f3 g0 g1 g2 g3
          obtain ⟨⟨x0, x1, x2, x3⟩, g0, g1, g2, g3⟩ := box4c K3.out.bx
          obtain ⟨⟨z0, z1, z2, z3⟩, f0, f1, f2, f3⟩ := box4c K3.out.rx
          go_wp2
          refine post_gen7 fun W9 hW9 => ?_
          have hr := K3.out.res hW9
          clear z0 z1 z2 z3 f0 f1 f2 f3
          obtain ⟨⟨z0, z1, z2, z3⟩, -⟩ := box4c hr.1
          refine bodyPost_ret (v := .agg #[.int .i64 t'.kind, .int .i64 t'.num, .string t'.name, .slice pa t'.args.length pc]) (by simp [results, Try.results115, go_sem, z0, z1, z2, z3]; try rfl) rfl ?_
          exact ⟨t', pa, pc, rfl, HD.out, hr.2⟩
        | true =>
          go_upto_region 7 with (first | (go_at_call 146; ((with_reducible refine (CF.out _ HW.out.bel).mono ?_); rintro e W2 ⟨fa, fc, rfl, rfl, bb⟩; have K2 := Lib.hid (HW.out.below bb); have K3 := Lib.hid (K2.out.below (AL.out W2 (.cells #[.int .i64 G.kind, .int .i64 G.num, .string G.name, .slice fa G.args.length fc] 24) _ (Nat.le_refl _))); clear bb)))
          clear x0 x1 x2 x3 z0 z1 z2 z3 f0 f1 f2 f3 g0 g1 g2 g3
          obtain ⟨⟨x0, x1, x2, x3⟩, g0, g1, g2, g3⟩ := box4c K3.out.bx
          have hs2 := K2.out.sz
          go_wp2
          go_roundg (L.length + 1 - (k + 1))
          case measure => have := HN.out; omega
          case rel => exact ⟨k + 1, G, fa, fc, by omega, by go_num, rfl, .inr ⟨HK1.out, HFT.out (by first | trivial | rfl)⟩, K3.out.put⟩
      · have hkb : (t'.kind == 1) = false := by simp [hkd]
        clear hkd
        go_wp2
        refine post_gen7 fun W9 hW9 => ?_
        have hr := HW.out.res hW9
        clear z0 z1 z2 z3 f0 f1 f2 f3
        obtain ⟨⟨z0, z1, z2, z3⟩, -⟩ := box4c hr.1
        refine bodyPost_ret (v := .agg #[.int .i64 t'.kind, .int .i64 t'.num, .string t'.name, .slice pa t'.args.length pc]) (by simp [results, Try.results115, go_sem, z0, z1, z2, z3]; try rfl) rfl ?_
        exact ⟨t', pa, pc, rfl, HD.out, hr.2⟩
    · have hki : ¬ ((k : Int) ≤ L.length) := by omega
      go_wp2
      refine post_gen7 fun W9 hW9 => ?_
      have hr := HW.out.res hW9
      clear z0 z1 z2 z3 f0 f1 f2 f3
      obtain ⟨⟨z0, z1, z2, z3⟩, -⟩ := box4c hr.1
      refine bodyPost_ret (v := .agg #[.int .i64 t'.kind, .int .i64 t'.num, .string t'.name, .slice pa t'.args.length pc]) (by simp [results, Try.results115, go_sem, z0, z1, z2, z3]; try rfl) rfl ?_
      exact ⟨t', pa, pc, rfl, HD.out, hr.2⟩
end Go.Proofs.Ytmffobadnmkpbaa
