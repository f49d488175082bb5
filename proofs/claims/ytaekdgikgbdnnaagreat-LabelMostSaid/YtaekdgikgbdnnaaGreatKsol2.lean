/-
  slices.Clone of a list of sets; label.with, walked.
  label.Split and the reference's, walked.
-/
import Derived.Test.YtaekdgikgbdnnaaGreatKsol1
import Derived.Test.YtaekdgikgbdnnaaGreatKonce1
import Derived.Test.YtaekdgikgbdnnaaGreatKlabel1
import Derived.Test.YtaekdgikgbdnnaaGreatKdom2
namespace Go.Proofs.YtaekdgikgbdnnaaGreat
open Go.RowKit

/-- append of two cells, laid in a new block just before -/
theorem wpList_appendTwo {P : Program} {ops : Array Oper} {rest : List Oper} {o : Oper} {a : Act} {w : World} {Q : Exit → Act → World → Prop} (hgd : o.guard = none) (s x : Operand) (t : TypeId)
    (ho : o.op = .call { callee := .builtin .append, args := #[s, x], argTypes := #[t, t] })
    (base : Nat) (e : TypeId) (i : TypeInfo) (z : Value) (bytes : Nat) (ht : P.underlying t = some (.slice e)) (hi : P.info? e = some i) (hz : i.zero = some z)
    (hsize : i.size = 1) (hby : i.bytes = bytes) (hzs : z.cells.size = 1)
    (v : Value) (n : Nat) (xs : List Value) (hs : a.eval s = v) {e' : TypeId} (u1 u2 : Value) (hown : (w.alloc (.cells #[u1, u2] e')).ownsRow base e 1 v n xs)
    (hx : a.eval x = .slice (some ⟨w.heap.size, 0, none⟩) 2 2) (h1 : u1.oneCell' = true) (h2 : u2.oneCell' = true)
    (hbytes : (n + 2) * bytes ≤ 140737488355328 ∧ n + 2 ≤ 140737488355328) (hbase : base ≤ w.heap.size)
    (h : ∀ g cap w', w'.ownsRow base e 1 (.slice (some ⟨g, 0, none⟩) (n + 2) cap) (n + 2) (xs ++ [u1, u2]) → (w.alloc (.cells #[u1, u2] e')).grownBy w' v.ownBlock → (v.ownBlock = some g ∨ (w.alloc (.cells #[u1, u2] e')).heap.size ≤ g) → wpList P ops Q rest (a.put o.dst (.slice (some ⟨g, 0, none⟩) (n + 2) cap)) w') :
    wpList P ops Q (o :: rest) a (w.alloc (.cells #[u1, u2] e')) := by
  refine wpList_append_lies _ hgd s x t ho base e i z 1 bytes ht hi hz hsize hby hzs (by decide) v n xs hs hown ⟨w.heap.size, 0, none⟩ 2 2 [u1, u2] hx rfl ?_ ?_ (by decide) ?_ hbytes.1 (by simp; omega) _ rfl ?_
  · intro j y hj
    match j, hj with
    | 0, hj => simp at hj; subst hj; simp [Addr.add]
    | 1, hj => simp at hj; subst hj; simp [Addr.add]
  · intro y hy; simp at hy; rcases hy with rfl | rfl <;> assumption
  · unfold maxLen; omega
  · intro g cap w' r1 r2 r3 _
    exact h g cap w' r1 r2 (r3.imp id (fun e => Nat.le_of_eq e.symm))
theorem rgs_one {us : List Value} {n : Nat} {P : Nat → Value → Prop} (h : us.length = n) (hu : ∀ j, j < n → ∃ u, us[j]? = some u ∧ P j u) (hp : ∀ j u, P j u → u.oneCell' = true) : ∀ u ∈ us, u.oneCell' = true := fun u hm => by
  obtain ⟨j, hj, rfl⟩ := List.mem_iff_getElem.1 hm
  obtain ⟨x, e, hx⟩ := hu j (by omega)
  rw [List.getElem?_eq_getElem hj] at e
  injection e with e
  rw [e]; exact hp j x hx
theorem rgAt_oneCell {W : World} {u : Value} {d : List Rg} (h : RgAt W u d) : u.oneCell' = true := by
  obtain ⟨ao, c, rfl, _⟩ := h.shape
  rfl
/-- what a row of its own holds: sets whose blocks are good -/
def DsIn (Q : Nat → Prop) (W : World) (B : Nat) (v : Value) (D : Ds) (us : List Value) : Prop :=
  us.length = D.length ∧ W.ownsRow B 61 1 v D.length us ∧ ∀ j, (hj : j < D.length) → ∃ u, us[j]? = some u ∧ RgQ Q W u D[j]
theorem DsIn.q {Q : Nat → Prop} {W : World} {B : Nat} {v : Value} {D : Ds} {us : List Value} (h : DsIn Q W B v D us) (hq : ∀ b, B ≤ b → Q b) : DsQ Q W v D :=
  ⟨us, h.1, SlAt.of_own h.2.1, fun _ b e => hq b ((own_lt h.2.1 e).2), h.2.2⟩
/-- what Clone hands back -/
def RetD (Q : Nat → Prop) (D : Ds) (w : World) (e : Ending) (w' : World) : Prop := ∃ g cap us, e = .returned (.slice (some ⟨g, 0, none⟩) D.length cap) ∧ DsIn Q w' w.heap.size (.slice (some ⟨g, 0, none⟩) D.length cap) D us ∧ Below w.heap.size w w'

set_option maxRecDepth 100000 in
theorem cloneDs_c (Q : Nat → Prop) (vd : Value) (D : Ds) (w : World) (hd : DsQ Q w vd D) (hl : D.length ≤ 4096) (hne : 0 < D.length) :
    Calls Tryz.prog 53 #[vd] w (RetD Q D w) := by
  obtain ⟨i0, hi, hz0, hz1, hz2⟩ := info_parts Tryz.infoRgs
  obtain ⟨us, hus, hsl, hq, hel⟩ := hd
  have hone := rgs_one hus (fun j hj => by obtain ⟨u, a, b⟩ := hel j hj; exact ⟨u, a, rgAt_oneCell b.1⟩) (P := fun _ u => u.oneCell' = true) (fun _ _ h => h)
  obtain ⟨b, off, cap, rfl, _⟩ := SlAt.pos hsl (by omega)
  have q22 : ∀ (w : World) (a : Option Addr) (n c n' c' : Nat), (binOp .eql 22 (.slice a n c) (.slice none n' c')).run Tryz.prog w = .ok (.bool a.isNone) w := fun w a n c n' c' => Lib.run_eql_slice_nil w _ _ a n c n' c' Tryz.underlying22
  have H := Lib.hid hsl
  have HO := Lib.hid hone
  have HE := Lib.hid hel
  have HU := Lib.hid hus
  clear hsl hone hel hus hq
  have HM : Hid ((w.alloc (.cells #[] 61)).ownsRow w.heap.size 61 1 (.slice (some ⟨w.heap.size, 0, none⟩) 0 0) 0 []) := World.ownsRow_made w #[] 0 (Nat.le_refl _) (by decide) rfl
  have HB : Hid (Below w.heap.size w (w.alloc (.cells #[] 61))) := (Below.refl _ _).alloc (Nat.le_refl _) _
  go_enter Tryz.func53, Tryz.ntmps53
  go_wp2_with (at_builtin; refine wpList_append_sl rfl (.tmp 5) (.tmp 6) 22 rfl w.heap.size 61 i0 (.slice none 0 0) 1 24 Tryz.underlying22 hi hz0 hz1 hz2 rfl (by decide) _ 0 [] rfl HM.out _ D.length us rfl (SlAt.below H.out HB.out) HO.out (by omega) (by simp) ?_; intro v1 w1 o1 b1 _)
  rw [Nat.zero_add, List.nil_append] at o1
  have o2 := o1
  rcases o2.2 with ⟨_, h0⟩ | ⟨g, c, cur, rfl, _⟩
  · omega
  go_ret
  have hb := HB.out.trans b1
  exact ⟨g, c, us, rfl, ⟨HU.out, o1, fun j hj => by
    obtain ⟨u, a, b⟩ := HE.out j hj
    exact ⟨u, a, b.on hb.size (fun k hk _ => hb.block k hk)⟩⟩, hb⟩

theorem RgQ.below {Q : Nat → Prop} {W W' : World} {u : Value} {d : List Rg} (h : RgQ Q W u d) (hb : Below W.heap.size W W') : RgQ Q W' u d := h.on hb.size (fun b hb' _ => hb.block b hb')
/-- a place of it is turned -/
theorem DsIn.set {Q : Nat → Prop} {W : World} {B g cap : Nat} {D : Ds} {us : List Value} (h : DsIn Q W B (.slice (some ⟨g, 0, none⟩) D.length cap) D us) {v : Nat} (hv : v < D.length) {u : Value} {d : List Rg} (hu : RgQ Q W u d) :
    DsIn Q (W.setCell ⟨g, v, none⟩ u) B (.slice (some ⟨g, 0, none⟩) D.length cap) (D.set v d) (us.set v u) := by
  obtain ⟨h1, h2, h3⟩ := h
  have hc : ∃ ao n c, W.cell? ⟨g, v, none⟩ = some (.slice ao n c) := by
    obtain ⟨x, e, r⟩ := h3 v hv
    obtain ⟨ao, c, rfl, _⟩ := r.1.shape
    exact ⟨ao, _, c, by rw [h2.cellAt v (by omega), e]⟩
  obtain ⟨ao, n, c, hc⟩ := hc
  refine ⟨by simp [h1], by rw [List.length_set]; exact (h2.stored v u).1, fun i hi => ?_⟩
  rw [List.length_set] at hi
  by_cases hij : v = i
  · subst hij
    exact ⟨u, by rw [List.getElem?_set_self (by omega)], by rw [List.getElem_set_self]; exact ⟨hu.1.setSlice hc u, hu.2⟩⟩
  · obtain ⟨x, e1, e2⟩ := h3 i hi
    exact ⟨x, by rw [List.getElem?_set_ne hij]; exact e1, by rw [List.getElem_set_ne hij]; exact ⟨e2.1.setSlice hc u, e2.2⟩⟩

set_option maxRecDepth 100000 in
theorem with_c (Q : Nat → Prop) (vd : Value) (v : Nat) (vu : Value) (D : Ds) (d : List Rg) (w : World) (hd : DsQ Q w vd D) (hu : RgQ Q w vu d) (hv : v < D.length) (hl : D.length ≤ 4096) :
    Calls Tryz.prog 33 #[vd, .int .i64 v, vu] w (RetD Q (D.set v d) w) := by
  have CC := Lib.hid (cloneDs_c Q vd D w hd hl (by omega))
  have HU := Lib.hid hu
  obtain ⟨ao, cap, rfl, _⟩ := hd.at.shape
  obtain ⟨ao2, cap2, rfl, _⟩ := hu.1.shape
  clear hd hu
  have j1 : (v : Int) < D.length := by omega
  go_enter Tryz.func33, Tryz.ntmps33
  go_wp2_with (go_at_call 53; (with_reducible refine CC.out.mono ?_); rintro e W1 ⟨g, c, us, rfl, i1, b1⟩; have I1 := Lib.hid i1; have B1 := Lib.hid b1; obtain ⟨z, hz⟩ : ∃ z, W1.cell? ⟨g, v, none⟩ = some z := (by obtain ⟨x, e, _⟩ := i1.2.2 v hv; exact ⟨x, by rw [i1.2.1.cellAt v (by omega), e]⟩); have hg := Lib.hid (own_lt i1.2.1 (b := g) rfl).2; have hfz := i1.2.1.frozenAt v; clear i1 b1)
  go_ret
  refine ⟨g, c, us.set v (.slice ao2 d.length cap2), by rw [List.length_set]; rfl, ?_, B1.out.setCell (p := ⟨g, v, none⟩) hg.out _⟩
  have := DsIn.set I1.out hv (HU.out.below B1.out)
  rw [List.length_set]
  exact this
/-- the same, its length told by the list that came in -/
def RetDn (Q : Nat → Prop) (n : Nat) (D : Ds) (w : World) (e : Ending) (w' : World) : Prop := ∃ g cap us, e = .returned (.slice (some ⟨g, 0, none⟩) n cap) ∧ DsIn Q w' w.heap.size (.slice (some ⟨g, 0, none⟩) n cap) D us ∧ Below w.heap.size w w'
theorem with_n (Q : Nat → Prop) (vd : Value) (v : Nat) (vu : Value) (D : Ds) (d : List Rg) (w : World) (hd : DsQ Q w vd D) (hu : RgQ Q w vu d) (hv : v < D.length) (hl : D.length ≤ 4096) :
    Calls Tryz.prog 33 #[vd, .int .i64 v, vu] w (RetDn Q D.length (D.set v d) w) :=
  (with_c Q vd v vu D d w hd hu hv hl).mono fun e w' h => by unfold RetD at h; rw [List.length_set] at h; exact h
end Go.Proofs.YtaekdgikgbdnnaaGreat
namespace Go.Proofs.YtaekdgikgbdnnaaGreat
open Go.RowKit

/-- two lists are handed back -/
def RetSN (A B : List Rg) (w : World) (e : Ending) (w' : World) : Prop :=
  ∃ a1 c1 a2 c2, e = .returned (.tuple #[.slice a1 A.length c1, .slice a2 B.length c2]) ∧ RgAt w' (.slice a1 A.length c1) A ∧ RgAt w' (.slice a2 B.length c2) B ∧ Below w.heap.size w w' ∧ (∀ b, (Value.slice a1 A.length c1).ownBlock = some b → w.heap.size ≤ b) ∧ ∀ b, (Value.slice a2 B.length c2).ownBlock = some b → w.heap.size ≤ b
set_option maxRecDepth 100000 in
theorem minus_n (va vb : Value) (a b : List Rg) (w : World) (ha : RgAt w va a) (hb : RgAt w vb b) (hla : a.length ≤ 4096) (hlb : b.length ≤ 4096) :
    Calls Tryz.prog 70 #[va, vb] w (RetN (minusL a b) w) := by
  obtain ⟨ao, cap, rfl, _⟩ := ha.shape
  obtain ⟨ao2, cap2, rfl, _⟩ := hb.shape
  have HA := Lib.hid ha
  have CB := Lib.hid (compl_c _ b w hb hlb)
  have HE := Lib.hid (minus_eq a b)
  have hlc : (complL b).length ≤ 201 := canon_len _
  clear ha hb
  generalize complL b = cb at CB HE hlc
  generalize minusL a b = me at HE ⊢
  go_enter Tryz.func70, Tryz.ntmps70
  go_wp2_with (first
    | (go_at_call 93; (with_reducible refine CB.out.mono ?_); rintro e W ⟨a1, c1, rfl, hr1, hb1⟩; have CM := Lib.hid (meet_n _ _ a cb W (HA.out.below hb1) hr1 hla (by omega)); rw [HE.out] at CM; have HW := Lib.hid hb1; clear hr1 hb1)
    | (go_at_call 34; (with_reducible refine CM.out.mono ?_); rintro e W2 ⟨a2, c2, rfl, hr2, hb2, hn2⟩))
  go_ret
  exact ⟨_, _, rfl, hr2, HW.out.trans (hb2.mono HW.out.size), fun b h => Nat.le_trans HW.out.size (hn2 b h)⟩
theorem rgAt_one (w : World) (a b : Int) (T : TypeId) : RgAt (w.alloc (.cells #[.int .i64 a, .int .i64 b] T)) (.slice (some ⟨w.heap.size, 0, none⟩) 1 1) [(a, b)] := rgAt_lit2 w (a, b) T

set_option maxRecDepth 100000 in
set_option maxHeartbeats 3200000 in
theorem split_c (vd vw : Value) (sel ord br : Int) (d : List Rg) (w : World) (hd : RgAt w vd d) (hl : d.length ≤ 4096) (ho : ord = 0 ∨ ord = 1) (hb : br = 0 ∨ br = 1) (aw : Option Addr) (nw cw : Nat) (hvw : vw = .slice aw nw cw) :
    Calls Tryz.prog 46 #[vd, .agg #[.int .i64 sel, .int .i64 ord, .int .i64 br, vw]] w (RetSN (splitL d ord br).1 (splitL d ord br).2 w) := by
  subst hvw
  obtain ⟨ao, cap, rfl, _⟩ := hd.shape
  have HZ := Lib.hid (boxZ w (.int .i64 sel) (.int .i64 ord) (.int .i64 br) (.slice aw nw cw) 28)
  have HB := Lib.hid (BoxL.mk' w #[.int .i64 sel, .int .i64 ord, .int .i64 br, .slice aw nw cw] 28)
  have HD := Lib.hid hd
  have CS := Lib.hid (size_c _ d _ (hd.below HZ.out) hl)
  by_cases h2 : sizeL (norm d) < 2
  · have hs : splitL d ord br = ([], []) := by unfold splitL; rw [if_pos h2]
    rw [hs]
    clear hs hd
    generalize sizeL (norm d) = sz at *
    go_enter Tryz.func46, Tryz.ntmps46
    go_wp2_with (go_at_call 68; (with_reducible refine CS.out.mono ?_); rintro e W1 ⟨rfl, bb⟩; have B1 := Lib.hid (HZ.out.trans (bb.mono HZ.out.size)); clear bb)
    go_ret2
    exact ⟨none, 0, none, 0, rfl, RgAt.nil, RgAt.nil, B1.out, fun b h => (by cases h), fun b h => (by cases h)⟩
  · obtain ⟨b1, b2, b3, b4⟩ := ends_bnd d
    have hle := two_ends d h2
    have CE : Hid (∀ W, Below w.heap.size w W → Calls Tryz.prog 45 #[.slice ao d.length cap] W fun e w' => e = .returned (.tuple #[.int .i64 (endsL (norm d)).1, .int .i64 (endsL (norm d)).2.1, .bool (endsL (norm d)).2.2]) ∧ Below W.heap.size W w') := fun W h => ends_c _ d W (hd.below h) hl
    obtain ⟨cc, hcc⟩ : ∃ cc, cc = cutAt ord br (endsL (norm d)).1 (endsL (norm d)).2.1 := ⟨_, rfl⟩
    have CM : Hid (∀ vb W, Below w.heap.size w W → RgAt W vb [((endsL (norm d)).1, cc)] → Calls Tryz.prog 34 #[.slice ao d.length cap, vb] W (RetN (meetL d [((endsL (norm d)).1, cc)]) W)) := fun vb W h hb => meet_n _ vb d _ W (hd.below h) hb hl (by simp)
    have CN : Hid (∀ vb W, Below w.heap.size w W → RgAt W vb [((endsL (norm d)).1, cc)] → Calls Tryz.prog 70 #[.slice ao d.length cap, vb] W (RetN (minusL d [((endsL (norm d)).1, cc)]) W)) := fun vb W h hb => minus_n _ vb d _ W (hd.below h) hb hl (by simp)
    have hs : splitL d ord br = if ord = 1 then (minusL d [((endsL (norm d)).1, cc)], meetL d [((endsL (norm d)).1, cc)]) else (meetL d [((endsL (norm d)).1, cc)], minusL d [((endsL (norm d)).1, cc)]) := by
      unfold splitL; rw [if_neg h2, hcc]
    rw [hs]
    clear hs hd HD
    unfold cutAt at hcc
    generalize (endsL (norm d)).2.2 = ok at *
    generalize (endsL (norm d)).1 = lo at *
    generalize (endsL (norm d)).2.1 = hi at *
    generalize meetL d [(lo, cc)] = ME at *
    generalize minusL d [(lo, cc)] = MI at *
    generalize sizeL (norm d) = sz at *
    rcases hb with rfl | rfl
    · rcases ho with rfl | rfl
      · simp only [show ((0 : Int) = 1) = False by simp, if_false] at hcc ⊢
        subst hcc
        go_enter Tryz.func46, Tryz.ntmps46
        go_wp2_with (first
          | (go_at_call 68; (with_reducible refine CS.out.mono ?_); rintro e W1 ⟨rfl, bb⟩; have B1 := Lib.hid (HZ.out.trans (bb.mono HZ.out.size)); have Q1 := Lib.hid bb; obtain ⟨l1, _⟩ := (HB.out.below bb (by simp)).get 1 rfl; obtain ⟨l2, _⟩ := (HB.out.below bb (by simp)).get 2 rfl; clear bb)
          | (go_at_call 45; (with_reducible refine (CE.out _ B1.out).mono ?_); rintro e W2 ⟨rfl, bb⟩; have B2 := Lib.hid (B1.out.trans (bb.mono B1.out.size)); have Q2 := Lib.hid (Q1.out.trans (bb.mono Q1.out.size)); obtain ⟨m1, _⟩ := (HB.out.below Q2.out (by simp)).get 1 rfl; obtain ⟨m2, _⟩ := (HB.out.below Q2.out (by simp)).get 2 rfl; clear bb)
          | (go_at_call 34; (with_reducible refine (CM.out _ _ (B2.out.alloc B2.out.size _) (rgAt_one W2 _ _ _)).mono ?_); rintro e W3 ⟨a3, c3, rfl, r3, bb, n3⟩; have N3 : Hid (∀ b, (Value.slice a3 ME.length c3).ownBlock = some b → w.heap.size ≤ b) := (fun b h => Nat.le_trans (B2.out.alloc B2.out.size _).size (n3 b h)); clear n3; have B3 := Lib.hid ((B2.out.alloc B2.out.size _).trans (bb.mono (B2.out.alloc B2.out.size _).size)); have R3 := Lib.hid r3; have K3 := Lib.hid ((rgAt_one W2 _ _ _).below bb); have Q3 := Lib.hid ((Q2.out.alloc Q2.out.size _).trans (bb.mono (Q2.out.alloc Q2.out.size _).size)); clear bb r3)
          | (go_at_call 70; (with_reducible refine (CN.out _ _ B3.out K3.out).mono ?_); rintro e W4 ⟨a4, c4, rfl, r4, bb, n4⟩; have N4 : Hid (∀ b, (Value.slice a4 MI.length c4).ownBlock = some b → w.heap.size ≤ b) := (fun b h => Nat.le_trans B3.out.size (n4 b h)); clear n4; have B4 := Lib.hid (B3.out.trans (bb.mono B3.out.size)); have R4 := Lib.hid r4; have K4 := Lib.hid (R3.out.below bb); have Q4 := Lib.hid (Q3.out.trans (bb.mono Q3.out.size)); obtain ⟨n1, _⟩ := (HB.out.below Q4.out (by simp)).get 1 rfl; clear bb r4))
        go_ret2
        exact ⟨_, _, _, _, rfl, K4.out, R4.out, B4.out, N3.out, N4.out⟩
      · simp only [show ((0 : Int) = 1) = False by simp, if_true, if_false] at hcc ⊢
        subst hcc
        go_enter Tryz.func46, Tryz.ntmps46
        go_wp2_with (first
          | (go_at_call 68; (with_reducible refine CS.out.mono ?_); rintro e W1 ⟨rfl, bb⟩; have B1 := Lib.hid (HZ.out.trans (bb.mono HZ.out.size)); have Q1 := Lib.hid bb; obtain ⟨l1, _⟩ := (HB.out.below bb (by simp)).get 1 rfl; obtain ⟨l2, _⟩ := (HB.out.below bb (by simp)).get 2 rfl; clear bb)
          | (go_at_call 45; (with_reducible refine (CE.out _ B1.out).mono ?_); rintro e W2 ⟨rfl, bb⟩; have B2 := Lib.hid (B1.out.trans (bb.mono B1.out.size)); have Q2 := Lib.hid (Q1.out.trans (bb.mono Q1.out.size)); obtain ⟨m1, _⟩ := (HB.out.below Q2.out (by simp)).get 1 rfl; obtain ⟨m2, _⟩ := (HB.out.below Q2.out (by simp)).get 2 rfl; clear bb)
          | (go_at_call 34; (with_reducible refine (CM.out _ _ (B2.out.alloc B2.out.size _) (rgAt_one W2 _ _ _)).mono ?_); rintro e W3 ⟨a3, c3, rfl, r3, bb, n3⟩; have N3 : Hid (∀ b, (Value.slice a3 ME.length c3).ownBlock = some b → w.heap.size ≤ b) := (fun b h => Nat.le_trans (B2.out.alloc B2.out.size _).size (n3 b h)); clear n3; have B3 := Lib.hid ((B2.out.alloc B2.out.size _).trans (bb.mono (B2.out.alloc B2.out.size _).size)); have R3 := Lib.hid r3; have K3 := Lib.hid ((rgAt_one W2 _ _ _).below bb); have Q3 := Lib.hid ((Q2.out.alloc Q2.out.size _).trans (bb.mono (Q2.out.alloc Q2.out.size _).size)); clear bb r3)
          | (go_at_call 70; (with_reducible refine (CN.out _ _ B3.out K3.out).mono ?_); rintro e W4 ⟨a4, c4, rfl, r4, bb, n4⟩; have N4 : Hid (∀ b, (Value.slice a4 MI.length c4).ownBlock = some b → w.heap.size ≤ b) := (fun b h => Nat.le_trans B3.out.size (n4 b h)); clear n4; have B4 := Lib.hid (B3.out.trans (bb.mono B3.out.size)); have R4 := Lib.hid r4; have K4 := Lib.hid (R3.out.below bb); have Q4 := Lib.hid (Q3.out.trans (bb.mono Q3.out.size)); obtain ⟨n1, _⟩ := (HB.out.below Q4.out (by simp)).get 1 rfl; clear bb r4))
        go_ret2
        exact ⟨_, _, _, _, rfl, R4.out, K4.out, B4.out, N4.out, N3.out⟩
    · rcases ho with rfl | rfl
      · simp only [show ((0 : Int) = 1) = False by simp, if_true, if_false] at hcc ⊢
        subst hcc
        go_enter Tryz.func46, Tryz.ntmps46
        go_wp2_with (first
          | (go_at_call 68; (with_reducible refine CS.out.mono ?_); rintro e W1 ⟨rfl, bb⟩; have B1 := Lib.hid (HZ.out.trans (bb.mono HZ.out.size)); have Q1 := Lib.hid bb; obtain ⟨l1, _⟩ := (HB.out.below bb (by simp)).get 1 rfl; obtain ⟨l2, _⟩ := (HB.out.below bb (by simp)).get 2 rfl; clear bb)
          | (go_at_call 45; (with_reducible refine (CE.out _ B1.out).mono ?_); rintro e W2 ⟨rfl, bb⟩; have B2 := Lib.hid (B1.out.trans (bb.mono B1.out.size)); have Q2 := Lib.hid (Q1.out.trans (bb.mono Q1.out.size)); obtain ⟨m1, _⟩ := (HB.out.below Q2.out (by simp)).get 1 rfl; obtain ⟨m2, _⟩ := (HB.out.below Q2.out (by simp)).get 2 rfl; clear bb)
          | (go_at_call 34; (with_reducible refine (CM.out _ _ (B2.out.alloc B2.out.size _) (rgAt_one W2 _ _ _)).mono ?_); rintro e W3 ⟨a3, c3, rfl, r3, bb, n3⟩; have N3 : Hid (∀ b, (Value.slice a3 ME.length c3).ownBlock = some b → w.heap.size ≤ b) := (fun b h => Nat.le_trans (B2.out.alloc B2.out.size _).size (n3 b h)); clear n3; have B3 := Lib.hid ((B2.out.alloc B2.out.size _).trans (bb.mono (B2.out.alloc B2.out.size _).size)); have R3 := Lib.hid r3; have K3 := Lib.hid ((rgAt_one W2 _ _ _).below bb); have Q3 := Lib.hid ((Q2.out.alloc Q2.out.size _).trans (bb.mono (Q2.out.alloc Q2.out.size _).size)); clear bb r3)
          | (go_at_call 70; (with_reducible refine (CN.out _ _ B3.out K3.out).mono ?_); rintro e W4 ⟨a4, c4, rfl, r4, bb, n4⟩; have N4 : Hid (∀ b, (Value.slice a4 MI.length c4).ownBlock = some b → w.heap.size ≤ b) := (fun b h => Nat.le_trans B3.out.size (n4 b h)); clear n4; have B4 := Lib.hid (B3.out.trans (bb.mono B3.out.size)); have R4 := Lib.hid r4; have K4 := Lib.hid (R3.out.below bb); have Q4 := Lib.hid (Q3.out.trans (bb.mono Q3.out.size)); obtain ⟨n1, _⟩ := (HB.out.below Q4.out (by simp)).get 1 rfl; clear bb r4))
        go_ret2
        exact ⟨_, _, _, _, rfl, K4.out, R4.out, B4.out, N3.out, N4.out⟩
      · simp only [if_true] at hcc ⊢
        subst hcc
        go_enter Tryz.func46, Tryz.ntmps46
        go_wp2_with (first
          | (go_at_call 68; (with_reducible refine CS.out.mono ?_); rintro e W1 ⟨rfl, bb⟩; have B1 := Lib.hid (HZ.out.trans (bb.mono HZ.out.size)); have Q1 := Lib.hid bb; obtain ⟨l1, _⟩ := (HB.out.below bb (by simp)).get 1 rfl; obtain ⟨l2, _⟩ := (HB.out.below bb (by simp)).get 2 rfl; clear bb)
          | (go_at_call 45; (with_reducible refine (CE.out _ B1.out).mono ?_); rintro e W2 ⟨rfl, bb⟩; have B2 := Lib.hid (B1.out.trans (bb.mono B1.out.size)); have Q2 := Lib.hid (Q1.out.trans (bb.mono Q1.out.size)); obtain ⟨m1, _⟩ := (HB.out.below Q2.out (by simp)).get 1 rfl; obtain ⟨m2, _⟩ := (HB.out.below Q2.out (by simp)).get 2 rfl; clear bb)
          | (go_at_call 34; (with_reducible refine (CM.out _ _ (B2.out.alloc B2.out.size _) (rgAt_one W2 _ _ _)).mono ?_); rintro e W3 ⟨a3, c3, rfl, r3, bb, n3⟩; have N3 : Hid (∀ b, (Value.slice a3 ME.length c3).ownBlock = some b → w.heap.size ≤ b) := (fun b h => Nat.le_trans (B2.out.alloc B2.out.size _).size (n3 b h)); clear n3; have B3 := Lib.hid ((B2.out.alloc B2.out.size _).trans (bb.mono (B2.out.alloc B2.out.size _).size)); have R3 := Lib.hid r3; have K3 := Lib.hid ((rgAt_one W2 _ _ _).below bb); have Q3 := Lib.hid ((Q2.out.alloc Q2.out.size _).trans (bb.mono (Q2.out.alloc Q2.out.size _).size)); clear bb r3)
          | (go_at_call 70; (with_reducible refine (CN.out _ _ B3.out K3.out).mono ?_); rintro e W4 ⟨a4, c4, rfl, r4, bb, n4⟩; have N4 : Hid (∀ b, (Value.slice a4 MI.length c4).ownBlock = some b → w.heap.size ≤ b) := (fun b h => Nat.le_trans B3.out.size (n4 b h)); clear n4; have B4 := Lib.hid (B3.out.trans (bb.mono B3.out.size)); have R4 := Lib.hid r4; have K4 := Lib.hid (R3.out.below bb); have Q4 := Lib.hid (Q3.out.trans (bb.mono Q3.out.size)); obtain ⟨n1, _⟩ := (HB.out.below Q4.out (by simp)).get 1 rfl; clear bb r4))
        go_ret2
        exact ⟨_, _, _, _, rfl, R4.out, K4.out, B4.out, N4.out, N3.out⟩

end Go.Proofs.YtaekdgikgbdnnaaGreat
