/-
  index.Clash, walked.
  index.Which, walked.
-/
import Derived.Test.YtmffobadnmkpbaaKidx1
import Derived.Deep.DeepCutAuto
import Derived.Test.YtmffobadnmkpbaaKsol1
import Derived.Test.YtmffobadnmkpbaaKtm1
import Derived.Maps.AppendAt
import Derived.Maps.OwnIn
import Derived.Shelf.Abstract
namespace Go.Proofs.Ytmffobadnmkpbaa
open Go.RowKit

theorem later1 {W W' : World} {x0 x1 x2 : Value} {T : TypeId} (bb : Below (W.alloc (.cells #[x0, x1, x2] T)).heap.size (W.alloc (.cells #[x0, x1, x2] T)) W') : BoxL W' W.heap.size [x0, x1, x2] := (BoxL.mk' W #[x0, x1, x2] T).below bb (by simp)
theorem later2 {W W' : World} {x0 x1 x2 y0 y1 y2 : Value} {T T' : TypeId} (bb : Below ((W.alloc (.cells #[x0, x1, x2] T)).alloc (.cells #[y0, y1, y2] T')).heap.size ((W.alloc (.cells #[x0, x1, x2] T)).alloc (.cells #[y0, y1, y2] T')) W') : BoxL W' W.heap.size [x0, x1, x2] ∧ BoxL W' (W.heap.size + 1) [y0, y1, y2] := by
  have h2 := BoxL.mk' (W.alloc (.cells #[x0, x1, x2] T)) #[y0, y1, y2] T'
  simp only [World.size_alloc] at h2
  have hb : Below (W.heap.size + 2) ((W.alloc (.cells #[x0, x1, x2] T)).alloc (.cells #[y0, y1, y2] T')) W' := bb.mono (by simp)
  exact ⟨((BoxL.mk' W #[x0, x1, x2] T).below ((Below.refl (W.heap.size + 1) _).alloc (by simp) _) (by omega)).below hb (by omega), h2.below hb (by omega)⟩
theorem later1D {W W' : World} {x0 x1 x2 : Value} {T : TypeId} (bb : Below (W.alloc (.cells #[x0, x1, x2] T)).drew.heap.size (W.alloc (.cells #[x0, x1, x2] T)).drew W') : BoxL W' W.heap.size [x0, x1, x2] := later1 (T := T) (Below.trans ((Below.refl _ _).drew) bb)
theorem later2D {W W' : World} {x0 x1 x2 y0 y1 y2 : Value} {T T' : TypeId} (bb : Below ((W.alloc (.cells #[x0, x1, x2] T)).alloc (.cells #[y0, y1, y2] T')).drew.heap.size ((W.alloc (.cells #[x0, x1, x2] T)).alloc (.cells #[y0, y1, y2] T')).drew W') : BoxL W' W.heap.size [x0, x1, x2] ∧ BoxL W' (W.heap.size + 1) [y0, y1, y2] := later2 (T := T) (T' := T') (Below.trans ((Below.refl _ _).drew) bb)
theorem kb0 {W W' : World} {b : Nat} {x0 x1 x2 : Value} (h : BoxL W b [x0, x1, x2]) (bb : Below W.heap.size W W') : BoxL W' b [x0, x1, x2] := h.below bb (h.lt (by simp))
theorem kb1 {W W' : World} {b : Nat} {x0 x1 x2 : Value} {o : Obj} (h : BoxL W b [x0, x1, x2]) (bb : Below (W.alloc o).heap.size (W.alloc o) W') : BoxL W' b [x0, x1, x2] := kb0 (kb0 h ((Below.refl _ _).alloc (Nat.le_refl _) _)) bb
theorem kb2 {W W' : World} {b : Nat} {x0 x1 x2 : Value} {o o2 : Obj} (h : BoxL W b [x0, x1, x2]) (bb : Below ((W.alloc o).alloc o2).heap.size ((W.alloc o).alloc o2) W') : BoxL W' b [x0, x1, x2] := kb1 (kb0 h ((Below.refl _ _).alloc (Nat.le_refl _) _)) bb
theorem bx_al {W : World} {b : Nat} {x0 x1 x2 : Value} {o : Obj} (h : BoxL W b [x0, x1, x2]) : BoxL (W.alloc o) b [x0, x1, x2] := kb0 h ((Below.refl _ _).alloc (Nat.le_refl _) _)
theorem bx_far {W : World} {b c : Nat} {x0 x1 x2 y0 y1 y2 : Value} (h : BoxL W b [x0, x1, x2]) (hne : b ≠ c) : BoxL (((W.setCell ⟨c, 0, none⟩ y0).setCell ⟨c, 1, none⟩ y1).setCell ⟨c, 2, none⟩ y2) b [x0, x1, x2] := ((h.far (a := ⟨c, 0, none⟩) hne y0).far (a := ⟨c, 1, none⟩) hne y1).far (a := ⟨c, 2, none⟩) hne y2
theorem bx_new {W : World} {x0 x1 x2 : Value} {T : TypeId} : BoxL (W.alloc (.cells #[x0, x1, x2] T)) W.heap.size [x0, x1, x2] := BoxL.mk' W #[x0, x1, x2] T
theorem bx_new1 {W : World} {x0 x1 x2 : Value} {o : Obj} {T : TypeId} : BoxL ((W.alloc o).alloc (.cells #[x0, x1, x2] T)) (W.heap.size + 1) [x0, x1, x2] := by
  have h := BoxL.mk' (W.alloc o) #[x0, x1, x2] T
  simp only [World.size_alloc] at h; exact h
theorem bx_put {W : World} {b : Nat} {y0 y1 y2 : Value} (h : BoxL W b [.int .i64 0, .int .i64 0, .string ⟨#[]⟩]) : BoxL (((W.setCell ⟨b, 0, none⟩ y0).setCell ⟨b, 1, none⟩ y1).setCell ⟨b, 2, none⟩ y2) b [y0, y1, y2] := box3set h _ _ _
theorem bx_newS {W : World} {x0 x1 x2 u1 u2 u3 : Value} {a1 a2 a3 : Addr} {T : TypeId} : BoxL ((((W.setCell a1 u1).setCell a2 u2).setCell a3 u3).alloc (.cells #[x0, x1, x2] T)) W.heap.size [x0, x1, x2] := by
  have h := BoxL.mk' (((W.setCell a1 u1).setCell a2 u2).setCell a3 u3) #[x0, x1, x2] T
  simp only [World.size_setCell] at h; exact h
theorem keys_eight {W : World} {b : Nat} {a0 a1 a2 a3 b0 b1 b2 b3 : Value} (h : (W.cell? ⟨b, 0, none⟩ = some a0 ∧ W.cell? ⟨b, 1, none⟩ = some a1 ∧ W.cell? ⟨b, 2, none⟩ = some a2 ∧ W.cell? ⟨b, 3, none⟩ = some a3) ∧ (W.cell? ⟨b + 1, 0, none⟩ = some b0 ∧ W.cell? ⟨b + 1, 1, none⟩ = some b1 ∧ W.cell? ⟨b + 1, 2, none⟩ = some b2 ∧ W.cell? ⟨b + 1, 3, none⟩ = some b3)) :
    W.cell? ⟨b, 0, none⟩ = some a0 ∧ W.cell? ⟨b, 1, none⟩ = some a1 ∧ W.cell? ⟨b, 2, none⟩ = some a2 ∧ W.cell? ⟨b, 3, none⟩ = some a3 ∧ W.cell? ⟨b + 1, 0, none⟩ = some b0 ∧ W.cell? ⟨b + 1, 1, none⟩ = some b1 ∧ W.cell? ⟨b + 1, 2, none⟩ = some b2 ∧ W.cell? ⟨b + 1, 3, none⟩ = some b3 :=
  ⟨h.1.1, h.1.2.1, h.1.2.2.1, h.1.2.2.2, h.2.1, h.2.2.1, h.2.2.2.1, h.2.2.2.2⟩
set_option maxRecDepth 100000 in
set_option maxHeartbeats 3200000 in
theorem clash_c (a b : Tm) (ao bo : Option Addr) (ac bc : Nat) (w : World) (ha : a.ok) (hb : b.ok) :
    Calls Try.prog 46 #[.agg #[.int .i64 a.kind, .int .i64 a.num, .string a.name, .slice ao a.args.length ac], .agg #[.int .i64 b.kind, .int .i64 b.num, .string b.name, .slice bo b.args.length bc]] w fun e w' => e = .returned (.bool (clashT a b)) ∧ Below w.heap.size w w' := by
  obtain ⟨R, hR⟩ : ∃ R, R = clashT a b := ⟨_, rfl⟩
  rw [← hR]
  have HR : Hid (R = (nzK a && (nzK b && !((keyK a == keyK b) && (keyN a == keyN b) && ((keyS a).toList == (keyS b).toList))))) := by
    show _ = _
    rw [hR, clashT, nzK_eq ha, nzK_eq hb]
  obtain ⟨V, hV⟩ : ∃ V, V = ((w.alloc (.cells #[.int .i64 a.kind, .int .i64 a.num, .string a.name, .slice ao a.args.length ac] 24)).alloc (.cells #[.int .i64 b.kind, .int .i64 b.num, .string b.name, .slice bo b.args.length bc] 24)) := ⟨_, rfl⟩
  have BV : Hid (Below w.heap.size w V) := by rw [hV]; exact below_2a w _ _
  have hsV : V.heap.size = w.heap.size + 2 := by rw [hV]; simp
  have HS0 := Lib.hid (box_keys w (.int .i64 a.kind) (.int .i64 a.num) (.string a.name) (.slice ao a.args.length ac) (.int .i64 b.kind) (.int .i64 b.num) (.string b.name) (.slice bo b.args.length bc))
  have HS : Hid (∀ W, Below V.heap.size V W → (W.cell? ⟨w.heap.size, 0, none⟩ = some (.int .i64 a.kind) ∧ W.cell? ⟨w.heap.size, 1, none⟩ = some (.int .i64 a.num) ∧ W.cell? ⟨w.heap.size, 2, none⟩ = some (.string a.name) ∧ W.cell? ⟨w.heap.size, 3, none⟩ = some (.slice ao a.args.length ac) ∧ W.cell? ⟨w.heap.size + 1, 0, none⟩ = some (.int .i64 b.kind) ∧ W.cell? ⟨w.heap.size + 1, 1, none⟩ = some (.int .i64 b.num) ∧ W.cell? ⟨w.heap.size + 1, 2, none⟩ = some (.string b.name) ∧ W.cell? ⟨w.heap.size + 1, 3, none⟩ = some (.slice bo b.args.length bc))) := fun W h => by
    rw [hsV] at h
    exact keys_eight (HS0.out W (by rw [← hV]; exact h))
  have HSV := Lib.hid hsV
  have KA : Hid (∀ W, Calls Try.prog 85 #[.agg #[.int .i64 a.kind, .int .i64 a.num, .string a.name, .slice ao a.args.length ac]] W fun e w' => e = .returned (.agg #[.int .i64 (keyK a), .int .i64 (keyN a), .string (keyS a)]) ∧ Below W.heap.size W w') := fun W => keyed_c a ao ac W
  have KB : Hid (∀ W, Calls Try.prog 85 #[.agg #[.int .i64 b.kind, .int .i64 b.num, .string b.name, .slice bo b.args.length bc]] W fun e w' => e = .returned (.agg #[.int .i64 (keyK b), .int .i64 (keyN b), .string (keyS b)]) ∧ Below W.heap.size W w') := fun W => keyed_c b bo bc W
  have HR2 : Hid (R = (!((keyK a == 0) && (keyN a == 0) && ((keyS a).toList == [])) && (!((keyK b == 0) && (keyN b == 0) && ((keyS b).toList == [])) && !((keyK a == keyK b) && (keyN a == keyN b) && ((keyS a).toList == (keyS b).toList))))) := by
    have he : ByteArray.empty.toList = [] := by rw [ByteArray.toList_eq]; rfl
    have h := HR.out
    unfold nzK at h
    rw [he] at h
    exact h
  generalize keyK a = ka at *
  generalize keyN a = na at *
  generalize keyS a = sa at *
  generalize keyK b = kb at *
  generalize keyN b = nb at *
  generalize keyS b = sb at *
  clear hR ha hb HS0 hsV HR
  go_enter Try.func46, Try.ntmps46
  go_upto_region 1 with (fail)
  rw [← hV]
  clear hV
  have s0 := HS.out _ (Below.refl _ _)
  go_cut [5, 6] (fun p q wx => ∃ X Y, p = .pointer (some ⟨X, 0, none⟩) ∧ q = .pointer (some ⟨Y, 0, none⟩) ∧ Hid (BoxL wx X [.int .i64 ka, .int .i64 na, .string sa]) ∧ Hid (BoxL wx Y [.int .i64 kb, .int .i64 nb, .string sb]) ∧ Hid (Below V.heap.size V wx))
  case first =>
    go_region_held3 (fun W => W.cell? ⟨w.heap.size, 0, none⟩ = some (.int .i64 a.kind) ∧ W.cell? ⟨w.heap.size, 1, none⟩ = some (.int .i64 a.num) ∧ W.cell? ⟨w.heap.size, 2, none⟩ = some (.string a.name) ∧ W.cell? ⟨w.heap.size, 3, none⟩ = some (.slice ao a.args.length ac) ∧ W.cell? ⟨w.heap.size + 1, 0, none⟩ = some (.int .i64 b.kind) ∧ W.cell? ⟨w.heap.size + 1, 1, none⟩ = some (.int .i64 b.num) ∧ W.cell? ⟨w.heap.size + 1, 2, none⟩ = some (.string b.name) ∧ W.cell? ⟨w.heap.size + 1, 3, none⟩ = some (.slice bo b.args.length bc))
      ((first | (with_reducible exact s0) | (with_reducible exact HS.out _ PB.out) | (with_reducible exact HS.out _ PA.out) | (refine HS.out _ ?_; repeat' (first | (with_reducible exact PB.out) | (with_reducible exact PA.out) | (with_reducible refine Below.setCell ?_ ?_ _) | (with_reducible refine Below.alloc ?_ ?_ _) | (with_reducible refine Below.drew ?_) | (with_reducible exact Below.refl _ _) | (with_reducible exact Nat.le_refl _) | (with_reducible exact PA.out.size) | (with_reducible exact PB.out.size) | (with_reducible exact Nat.le_succ_of_le PA.out.size) | (with_reducible exact Nat.le_succ_of_le PB.out.size) | (with_reducible exact Nat.le_succ _) | (simp only [World.size_alloc, World.size_setCell]; first | (have h7 := PB.out.size; omega) | (have h7 := PA.out.size; omega) | omega) | (dsimp only; first | (have h7 := PB.out.size; omega) | (have h7 := PA.out.size; omega) | omega)))))
      (first
        | (go_at_call 85; ((with_reducible refine (KA.out _).mono ?_); rintro e WA ⟨rfl, bb⟩; have PA : Hid (Below V.heap.size V WA) := Below.trans (B := V.heap.size) (by first | exact Below.refl _ _ | exact (Below.refl _ _).drew | exact (Below.refl _ _).alloc (Nat.le_refl _) _ | exact ((Below.refl _ _).drew).alloc (Nat.le_refl _) _ | exact ((Below.refl _ _).alloc (Nat.le_refl _) _).drew | exact (((Below.refl _ _).alloc (Nat.le_refl _) _).alloc (by simp) _).drew | go_grown) (bb.mono (by first | exact Nat.le_refl _ | (simp; done) | (simp; omega))); (first | ((with_reducible have A2 := later2 bb); have HA1 := Lib.hid A2.1; have HA2 := Lib.hid A2.2; clear A2) | ((with_reducible have A2 := later2D bb); have HA1 := Lib.hid A2.1; have HA2 := Lib.hid A2.2; clear A2) | ((with_reducible have A1 := later1D bb); have HA1 := Lib.hid A1; clear A1) | ((with_reducible have A1 := later1 bb); have HA1 := Lib.hid A1; clear A1) | skip); (try (have hlA1 := HA1.out.lt (by simp))); (try (have hlA2 := HA2.out.lt (by simp))); clear bb))
        | (go_at_call 85; ((with_reducible refine (KB.out _).mono ?_); rintro e WB ⟨rfl, bb⟩; have PB : Hid (Below V.heap.size V WB) := Below.trans (B := V.heap.size) (by first | exact PA.out | exact PA.out.alloc PA.out.size _ | exact (PA.out.alloc PA.out.size _).alloc (PA.out.alloc PA.out.size _).size _ | go_grown) (bb.mono (by first | exact PA.out.size | exact (PA.out.alloc PA.out.size _).size | exact ((PA.out.alloc PA.out.size _).alloc (PA.out.alloc PA.out.size _).size _).size)); (try ((with_reducible first | have hc1 := kb0 HA1.out bb | have hc1 := kb1 HA1.out bb | have hc1 := kb2 HA1.out bb); have HC1 := Lib.hid hc1; clear hc1; obtain ⟨⟨z0, z1, z2⟩, f0, f1, f2⟩ := box3c HC1.out; have hl1 := HC1.out.lt (by simp))); (try ((with_reducible first | have hc2 := kb0 HA2.out bb | have hc2 := kb1 HA2.out bb | have hc2 := kb2 HA2.out bb); have HC2 := Lib.hid hc2; clear hc2; obtain ⟨⟨y0, y1, y2⟩, g0, g1, g2⟩ := box3c HC2.out; have hl2 := HC2.out.lt (by simp))); (first | ((with_reducible have B2 := later2 bb); obtain ⟨⟨u0, u1, u2⟩, p0, p1, p2⟩ := box3c B2.1; obtain ⟨⟨v0, v1, v2⟩, q0, q1, q2⟩ := box3c B2.2; have hl3 := B2.1.lt (by simp); have hl4 := B2.2.lt (by simp); have HB1 := Lib.hid B2.1; have HB2 := Lib.hid B2.2; clear B2) | ((with_reducible have B1 := later1 bb); obtain ⟨⟨u0, u1, u2⟩, p0, p1, p2⟩ := box3c B1; have hl3 := B1.lt (by simp); have HB1 := Lib.hid B1; clear B1) | skip); clear bb)))
    all_goals
      go_wp2_with fail
      go_meet
      refine ⟨_, _, rfl, rfl, Lib.hid ?_, Lib.hid ?_, Lib.hid ?_⟩
      · repeat' (first | (with_reducible exact HC1.out) | (with_reducible exact HC2.out) | (with_reducible exact HB1.out) | (with_reducible exact HB2.out) | (with_reducible exact bx_new) | (with_reducible exact bx_new1) | (with_reducible exact bx_newS) | (with_reducible refine bx_put ?_) | (with_reducible refine bx_far ?_ ?_) | (with_reducible refine bx_al ?_) | omega)
      · repeat' (first | (with_reducible exact HC1.out) | (with_reducible exact HC2.out) | (with_reducible exact HB1.out) | (with_reducible exact HB2.out) | (with_reducible exact bx_new) | (with_reducible exact bx_new1) | (with_reducible exact bx_newS) | (with_reducible refine bx_put ?_) | (with_reducible refine bx_far ?_ ?_) | (with_reducible refine bx_al ?_) | omega)
      · repeat' (first | (with_reducible exact PB.out) | (with_reducible refine Below.setCell ?_ ?_ _) | (with_reducible refine Below.alloc ?_ ?_ _) | (with_reducible refine Below.drew ?_) | (with_reducible exact Nat.le_refl _) | (with_reducible exact PA.out.size) | (with_reducible exact PB.out.size) | (with_reducible exact Nat.le_succ_of_le PA.out.size) | (with_reducible exact Nat.le_succ_of_le PB.out.size) | (with_reducible exact Nat.le_succ _) | (simp only [World.size_alloc, World.size_setCell]; first | (have h7 := PB.out.size; omega) | (have h7 := PA.out.size; omega) | omega) | (dsimp only; first | (have h7 := PB.out.size; omega) | (have h7 := PA.out.size; omega) | omega))
  case rest =>
    obtain ⟨X, Y, rfl, rfl, HBX, HBY, HBW⟩ := hcut
    obtain ⟨⟨z0, z1, z2⟩, -⟩ := box3c HBX.out
    obtain ⟨⟨y0, y1, y2⟩, -⟩ := box3c HBY.out
    clear KA KB HS s0
    have HBE : Hid (Below w.heap.size w wc) := BV.out.trans (HBW.out.mono BV.out.size)
    go_wp2
    all_goals
      go_ret
      exact ⟨ret_bool (by rw [HR2.out]; simp [*] <;> first | exact .inl (by omega) | exact .inl (.inl (by omega))), HBE.out⟩
end Go.Proofs.Ytmffobadnmkpbaa
namespace Go.Proofs.Ytmffobadnmkpbaa
open Go.RowKit

/-- the places that do not clash -/
def keepOf (g : Tm) (x : Nat × Tm × Option Addr × Nat) : Bool := !(decide (0 < g.args.length) && clashT (x.2.1.args.getD 0 .nil) (g.args.getD 0 .nil))
def outL (g : Tm) (pre : List (Nat × Tm × Option Addr × Nat)) : List Int := (pre.filter (keepOf g)).map fun x => (x.1 : Int)
/-- what the loop has gathered in box ob; the goal's box gb, the number's box nb -/
structure OutI (n0 ob gb nb : Nat) (g : Tm) (ga : Value) (W : World) (pre : List (Nat × Tm × Option Addr × Nat)) (M : Nat → Prop) : Prop where
  row : ∃ v, W.cell? ⟨ob, 0, none⟩ = some v ∧ W.frozen? ⟨ob, 0, none⟩ = false ∧ W.ownsRow (ob + 1) 3 1 v (outL g pre).length ((outL g pre).map (Value.int .i64)) ∧ ∀ b, v.ownBlock = some b → M b ∧ b ≠ gb ∧ b ≠ nb
  gc : W.cell? ⟨gb, 0, none⟩ = some (.int .i64 g.kind) ∧ W.cell? ⟨gb, 1, none⟩ = some (.int .i64 g.num) ∧ W.cell? ⟨gb, 2, none⟩ = some (.string g.name) ∧ W.cell? ⟨gb, 3, none⟩ = some ga
  nc : W.cell? ⟨nb, 0, none⟩ = some (.int .i64 g.args.length)
  mo : M ob
  mg : M gb
  mn : M nb
  og : ob ≠ gb
  on : ob ≠ nb
  lo : ∀ b, M b → n0 ≤ b
  lt : ∀ b, M b → b < W.heap.size
theorem OutI.rest {n0 ob gb nb : Nat} {g : Tm} {ga : Value} {W W' : World} {pre : List (Nat × Tm × Option Addr × Nat)} {M : Nat → Prop} (h : OutI n0 ob gb nb g ga W pre M) (hs : W.heap.size ≤ W'.heap.size) (hb : ∀ b, M b → W'.heap[b]? = W.heap[b]?) : OutI n0 ob gb nb g ga W' pre M := by
  obtain ⟨v, c, f, o, hm⟩ := h.row
  have cc : ∀ {b o' : Nat} {x : Value}, M b → W.cell? ⟨b, o', none⟩ = some x → W'.cell? ⟨b, o', none⟩ = some x := fun {b o' x} hm hx => (World.cell?_of_block (a := ⟨b, o', none⟩) (hb b hm)).trans hx
  refine ⟨⟨v, cc h.mo c, (World.frozen?_of_block (a := ⟨ob, 0, none⟩) (hb _ h.mo)).trans f, ⟨o.1, ?_⟩, hm⟩, ⟨cc h.mg h.gc.1, cc h.mg h.gc.2.1, cc h.mg h.gc.2.2.1, cc h.mg h.gc.2.2.2⟩, cc h.mn h.nc, h.mo, h.mg, h.mn, h.og, h.on, h.lo, fun b hb' => Nat.lt_of_lt_of_le (h.lt b hb') hs⟩
  rcases o.2 with hn | ⟨g', cap, cur, e, h1, h2, r⟩
  · exact .inl hn
  · exact .inr ⟨g', cap, cur, e, h1, (hb g' (hm g' (by rw [e]; rfl)).1).trans h2, r⟩
theorem outL_keep {g : Tm} {pre : List (Nat × Tm × Option Addr × Nat)} {x : Nat × Tm × Option Addr × Nat} (hk : keepOf g x = true) : outL g (pre ++ [x]) = outL g pre ++ [(x.1 : Int)] := by
  unfold outL; rw [List.filter_append, List.map_append]; simp [hk]
theorem outL_skip {g : Tm} {pre : List (Nat × Tm × Option Addr × Nat)} {x : Nat × Tm × Option Addr × Nat} (hk : keepOf g x = false) : outL g (pre ++ [x]) = outL g pre := by
  unfold outL; rw [List.filter_append]; simp [hk]
theorem OutI.skip {n0 ob gb nb : Nat} {g : Tm} {ga : Value} {W : World} {pre : List (Nat × Tm × Option Addr × Nat)} {M : Nat → Prop} (h : OutI n0 ob gb nb g ga W pre M) {x : Nat × Tm × Option Addr × Nat} (hk : keepOf g x = false) : OutI n0 ob gb nb g ga W (pre ++ [x]) M :=
  ⟨by rw [outL_skip hk]; exact h.row, h.gc, h.nc, h.mo, h.mg, h.mn, h.og, h.on, h.lo, h.lt⟩
theorem setBlk (W : World) (a : Addr) (u : Value) : (W.setCell a u).heap.size = W.heap.size ∧ ∀ b, b ≠ a.block → (W.setCell a u).heap[b]? = W.heap[b]? := ⟨by simp, fun b hb => Below.heap_setCell W a u b hb⟩
theorem own_blkI {w w' : World} {base : Nat} {e : TypeId} {k n : Nat} {v : Value} {xs : List Value} (h : w.ownsRow base e k v n xs) (hb : ∀ b, v.ownBlock = some b → w'.heap[b]? = w.heap[b]?) : w'.ownsRow base e k v n xs := by
  refine ⟨h.1, ?_⟩
  rcases h.2 with hn | ⟨g', cap, cur, e', h1, h2, r⟩
  · exact .inl hn
  · exact .inr ⟨g', cap, cur, e', h1, (hb g' (by rw [e']; rfl)).trans h2, r⟩
theorem OutI.push {n0 ob gb nb : Nat} {g : Tm} {ga : Value} {W w1 : World} {pre : List (Nat × Tm × Option Addr × Nat)} {M : Nat → Prop} {v : Value} (h : OutI n0 ob gb nb g ga W pre M) (hc : W.cell? ⟨ob, 0, none⟩ = some v)
    {x : Nat × Tm × Option Addr × Nat} (hk : keepOf g x = true) {T : TypeId} {g7 cap : Nat}
    (ho : w1.ownsRow (ob + 1) 3 1 (.slice (some ⟨g7, 0, none⟩) ((outL g pre).length + 1) cap) ((outL g pre).length + 1) ((outL g pre).map (Value.int .i64) ++ [.int .i64 x.1])) (hg : (W.alloc (.cells #[.int .i64 x.1] T)).grownBy w1 v.ownBlock)
    (hl : (Value.slice (some ⟨g7, 0, none⟩) ((outL g pre).length + 1) cap).ownBlock = v.ownBlock ∨ (Value.slice (some ⟨g7, 0, none⟩) ((outL g pre).length + 1) cap).ownBlock = some (W.alloc (.cells #[.int .i64 x.1] T)).heap.size) :
    ∃ M' : Nat → Prop, (∀ b, M' b → M b ∨ W.heap.size ≤ b) ∧ Agr M W (w1.setCell ⟨ob, 0, none⟩ (.slice (some ⟨g7, 0, none⟩) ((outL g pre).length + 1) cap)) ∧
      OutI n0 ob gb nb g ga (w1.setCell ⟨ob, 0, none⟩ (.slice (some ⟨g7, 0, none⟩) ((outL g pre).length + 1) cap)) (pre ++ [x]) M' := by
  obtain ⟨v0, h1, h2, h3, h4⟩ := h.row
  rw [hc] at h1
  injection h1 with h1
  subst h1
  have hsz : (W.alloc (.cells #[.int .i64 x.1] T)).heap.size = W.heap.size + 1 := by simp
  have hs1 : W.heap.size + 1 ≤ w1.heap.size := by rw [← hsz]; exact hg.size
  obtain ⟨hsS, hbS⟩ := setBlk w1 ⟨ob, 0, none⟩ (.slice (some ⟨g7, 0, none⟩) ((outL g pre).length + 1) cap)
  have hob := h.lt ob h.mo
  have hgb := h.lt gb h.mg
  have hnb := h.lt nb h.mn
  have hw1 : ∀ b, b < W.heap.size → v.ownBlock ≠ some b → w1.heap[b]? = W.heap[b]? := fun b hb hne => (hg.block b (by omega) (fun e => hne e.symm)).trans (Below.heap_alloc W _ b hb)
  have hg' : v.ownBlock = some g7 ∨ W.heap.size ≤ g7 := by
    rcases hl with e | e
    · exact .inl e.symm
    · right
      have : some g7 = some (W.alloc (.cells #[.int .i64 x.1] T)).heap.size := e
      injection this with this
      omega
  have hgob : ob + 1 ≤ g7 := (ho.lt g7 rfl).1
  have hglt : g7 < w1.heap.size := (ho.lt g7 rfl).2
  have hvob : v.ownBlock ≠ some ob := fun e => by have := (h3.lt ob e).1; omega
  have hvgb : v.ownBlock ≠ some gb := fun e => (h4 gb e).2.1 rfl
  have hvnb : v.ownBlock ≠ some nb := fun e => (h4 nb e).2.2 rfl
  have cc : ∀ {b o' : Nat} {y : Value}, b ≠ ob → b < W.heap.size → v.ownBlock ≠ some b → W.cell? ⟨b, o', none⟩ = some y → (w1.setCell ⟨ob, 0, none⟩ (.slice (some ⟨g7, 0, none⟩) ((outL g pre).length + 1) cap)).cell? ⟨b, o', none⟩ = some y := fun {b o' y} h1 h2 h3 h4 =>
    (World.cell?_of_block (a := ⟨b, o', none⟩) ((hbS b h1).trans (hw1 b h2 h3))).trans h4
  have og := Ne.symm h.og
  have on := Ne.symm h.on
  refine ⟨fun b => M b ∨ b = g7, fun b hb => ?_, ⟨?_, fun b hb hn => ?_⟩, ?_⟩
  · rcases hb with e | rfl
    · exact .inl e
    · rcases hg' with e | e
      · exact .inl (h4 b e).1
      · exact .inr e
  · exact (((Below.refl 0 W).alloc (Nat.zero_le _) _).grown hg (Nat.zero_le _) (fun _ _ => Nat.zero_le _)).setCell (p := ⟨ob, 0, none⟩) (Nat.zero_le _) _
  · exact (hbS b (fun e => hn (by dsimp only at e; rw [e]; exact h.mo))).trans (hw1 b hb (fun e => hn (h4 b e).1))
  · refine ⟨⟨_, World.cell?_setCell_same _ _ _ (u := v) ((World.cell?_of_block (a := ⟨ob, 0, none⟩) (hw1 ob hob hvob)).trans hc), ?_, ?_, fun b e => ?_⟩, ⟨cc og hgb hvgb h.gc.1, cc og hgb hvgb h.gc.2.1, cc og hgb hvgb h.gc.2.2.1, cc og hgb hvgb h.gc.2.2.2⟩, cc on hnb hvnb h.nc, .inl h.mo, .inl h.mg, .inl h.mn, h.og, h.on, fun b hb => ?_, fun b hb => ?_⟩
    · rw [World.frozen?_setCell]; exact (World.frozen?_of_block (a := ⟨ob, 0, none⟩) (hw1 ob hob hvob)).trans h2
    · rw [outL_keep hk, List.length_append, List.map_append]
      exact own_blkI ho (fun b e => hbS b (fun e' => by
        have : some g7 = some b := e
        injection this with this
        dsimp only at e'; omega))
    · have : some g7 = some b := e
      injection this with this
      subst this
      refine ⟨.inr rfl, fun e' => ?_, fun e' => ?_⟩
      · rcases hg' with e | e
        · exact hvgb (e' ▸ e)
        · omega
      · rcases hg' with e | e
        · exact hvnb (e' ▸ e)
        · omega
    · rcases hb with hb | rfl
      · exact h.lo b hb
      · rcases hg' with e | e
        · exact h.lo _ (h4 _ e).1
        · have := h.lo _ h.mo; omega
    · rw [hsS]
      rcases hb with hb | rfl
      · have := h.lt b hb; omega
      · exact hglt
/-- what Which hands back -/
def RetWhich (L : List Int) (w : World) (e : Ending) (w' : World) : Prop := ∃ ao cap, e = .returned (.slice ao L.length cap) ∧ SlAt w' 1 (.slice ao L.length cap) L.length (L.map (Value.int .i64)) ∧ Below w.heap.size w w'
def whichI (H : List Tm) (g : Tm) : List Nat := (namedTo H g.name g.args.length H.length).filter fun i => !(decide (0 < g.args.length) && clashT ((H.getD i .nil).args.getD 0 .nil) (g.args.getD 0 .nil))
theorem outL_which {g : Tm} {H : List Tm} {xs : List (Nat × Tm × Option Addr × Nat)} (hd : xs.map Prod.fst = namedTo H g.name g.args.length H.length) (hp : ∀ x ∈ xs, H[x.1]? = some x.2.1) : outL g xs = (whichI H g).map (fun (i : Nat) => (i : Int)) := by
  unfold outL whichI
  rw [← hd, List.filter_map, List.map_map]
  congr 1
  refine List.filter_congr fun x hx => ?_
  have e : H.getD x.1 .nil = x.2.1 := by rw [List.getD_eq_getElem?_getD, hp x hx]; rfl
  simp only [Function.comp, keepOf, e]
attribute [local go_sem] Oper.semAt_some
set_option maxRecDepth 1000000 in
set_option maxHeartbeats 6400000 in
theorem which_c (vh : Value) (H : List Tm) (g : Tm) (ga : Value) (w : World) (hh : TsAt (fun _ => True) w vh H) (hl : H.length ≤ 4096) (hg : TmAt (fun _ => True) w g ga) (hok : ∀ t ∈ H, t.ok) (hgo : g.ok) (hgn : g.named = true) (hgl : 0 < g.args.length) :
    Calls Try.prog 47 #[vh, tmV g ga] w (RetWhich ((whichI H g).map (fun (i : Nat) => (i : Int))) w) := by
  obtain ⟨ao, cap, rfl, _⟩ := hh.shape
  obtain ⟨p0, q0, rfl, _⟩ := hg.shape
  obtain ⟨W0, hW0⟩ : ∃ W0, W0 = (w.alloc (.cells #[.int .i64 g.kind, .int .i64 g.num, .string g.name, .slice p0 g.args.length q0] 24)).alloc (.cells #[.slice none 0 0] 29) := ⟨_, rfl⟩
  have B0 : Hid (Below w.heap.size w W0) := by rw [hW0]; exact ((Below.refl _ _).alloc (Nat.le_refl _) _).alloc (by simp) _
  have X0 : Hid (BoxL W0 w.heap.size [.int .i64 g.kind, .int .i64 g.num, .string g.name, .slice p0 g.args.length q0]) := by
    rw [hW0]; exact (BoxL.mk' w #[.int .i64 g.kind, .int .i64 g.num, .string g.name, .slice p0 g.args.length q0] 24).below ((Below.refl (w.heap.size + 1) _).alloc (by simp) _) (by omega)
  have Y0 : Hid (BoxL W0 (w.heap.size + 1) [.slice none 0 0]) := by
    have h := BoxL.mk' (w.alloc (.cells #[.int .i64 g.kind, .int .i64 g.num, .string g.name, .slice p0 g.args.length q0] 24)) #[.slice none 0 0] 29
    simp only [World.size_alloc] at h
    rw [hW0]; exact h
  have hs0 : Hid (W0.heap.size = w.heap.size + 2) := by show _ = _; rw [hW0]; simp
  have CNm : Hid (Calls Try.prog 38 #[.agg #[.int .i64 g.kind, .int .i64 g.num, .string g.name, .slice p0 g.args.length q0]] W0 fun e w' => e = .returned (.tuple #[.string g.name, .int .i64 g.args.length, .bool true]) ∧ Below W0.heap.size W0 w') := by
    have h := normName_c g p0 q0 W0
    rw [hgn] at h; exact h
  obtain ⟨x0, _⟩ := X0.out.get 0 rfl
  obtain ⟨x1, _⟩ := X0.out.get 1 rfl
  obtain ⟨x2, _⟩ := X0.out.get 2 rfl
  obtain ⟨x3, _⟩ := X0.out.get 3 rfl
  have HH := Lib.hid hh
  have HG := Lib.hid hg
  have HOK := Lib.hid hok
  have HGO := Lib.hid hgo
  have HWE := Lib.hid hW0
  unfold tmV
  clear hh hg hok hgo hgn hW0
  refine (callsIn_wide (n := 3)).1 (callsIn_of_wp_marks Try.func47 rfl trivial ?_ rfl)
  refine wpIn_wide.2 ?_
  simp only [Try.ntmps47, List.size_toArray, List.length_cons, List.length_nil, Nat.reduceAdd, Nat.reduceSub, Array.replicate_succ, Array.replicate_zero, List.push_toArray, List.append_toArray, List.nil_append, List.cons_append]
  go_upto_region 2 with fail
  rw [← HWE.out]
  go_upto_region 3 with (go_at_call 38; (with_reducible refine CNm.out.mono ?_); rintro e W1 ⟨rfl, b1⟩; have B1 := Lib.hid b1; clear b1)
  refine id_genW fun W2 hW2 => ?_
  have B2 : Hid (Below W1.heap.size W1 W2) := by rw [hW2]; exact (Below.refl _ _).alloc (Nat.le_refl _) _
  have Z2 : Hid (BoxL W2 W1.heap.size [.int .i64 g.args.length]) := by rw [hW2]; exact BoxL.mk' W1 #[.int .i64 g.args.length] 3
  have hs2 : Hid (W2.heap.size = W1.heap.size + 1) := by show _ = _; rw [hW2]; simp
  have hb01 := B1.out.size
  have hs00 := hs0.out
  have B02 : Hid (Below W0.heap.size W0 W2) := B1.out.trans (B2.out.mono B1.out.size)
  have X2 := Lib.hid (X0.out.below B02.out (by omega))
  have Y2 := Lib.hid (Y0.out.below B02.out (by omega))
  have BW2 : Hid (Below w.heap.size w W2) := B0.out.trans (B02.out.mono B0.out.size)
  clear hW2 x0 x1 x2 x3 CNm
  obtain ⟨NB, hNB⟩ : ∃ NB, NB = W1.heap.size := ⟨_, rfl⟩
  have hNB2 : w.heap.size + 2 ≤ NB := by rw [hNB]; omega
  rw [← hNB] at Z2 hs2
  rw [← hNB]
  have HNB := Lib.hid hNB2
  have z0 := (Z2.out.get 0 rfl).1
  have CNd : Hid (Calls Try.prog 86 #[.slice ao H.length cap, .string g.name, .int .i64 g.args.length] W2 fun e w' => e = .returned (.func (.func 114) #[] #[.pointer (some ⟨W2.heap.size, 0, none⟩), .pointer (some ⟨W2.heap.size + 1, 0, none⟩), .pointer (some ⟨W2.heap.size + 1 + 1, 0, none⟩)]) ∧
      (w'.cell? ⟨W2.heap.size, 0, none⟩ = some (.slice ao H.length cap) ∧ w'.cell? ⟨W2.heap.size + 1, 0, none⟩ = some (.string g.name) ∧ w'.cell? ⟨W2.heap.size + 1 + 1, 0, none⟩ = some (.int .i64 g.args.length)) ∧ Below W2.heap.size W2 w' ∧ w'.heap.size = W2.heap.size + 3) := idxNamed_c _ _ _ _ _ W2
  obtain ⟨HS, hHS⟩ : ∃ HS, HS = W2.heap.size := ⟨_, rfl⟩
  rw [← hHS] at CNd
  have HHS : Hid (HS = NB + 1) := by show _ = _; rw [hHS]; exact hs2.out
  have HH2 := Lib.hid hHS
  clear hNB hNB2 hHS hb01 hs00
  go_wp2_with (go_at_call 86; (with_reducible refine CNd.out.mono ?_); rintro e W3 ⟨rfl, ⟨c0, c1, c2⟩, b3, s3⟩; have C3 := Lib.hid c0; have C4 := Lib.hid c1; have C5 := Lib.hid c2; have B3 := Lib.hid b3; have S3 := Lib.hid s3; clear c0 c1 c2 b3 s3)
  refine (wpIn_wide (n := 3)).1 ?_
  have hs3 : W3.heap.size = HS + 3 := S3.out
  have B3' : Hid (Below W2.heap.size W2 W3) := by rw [← HH2.out]; exact B3.out
  have hhs := HHS.out
  have hnb := HNB.out
  have hs2w : W2.heap.size = NB + 1 := by rw [← HH2.out]; exact hhs
  have BIN : Hid (Below w.heap.size w W3) := BW2.out.trans (B3'.out.mono BW2.out.size)
  have X3 := Lib.hid (X2.out.below B3'.out (by omega))
  have Y3 := Lib.hid (Y2.out.below B3'.out (by omega))
  have Z3 := Lib.hid (Z2.out.below B3'.out (by omega))
  have I0 : Hid (OutI w.heap.size (w.heap.size + 1) w.heap.size NB g (.slice p0 g.args.length q0) W3 [] (fun b => b = w.heap.size + 1 ∨ b = w.heap.size ∨ b = NB)) :=
    ⟨⟨_, (Y3.out.get 0 rfl).1, (Y3.out.get 0 rfl).2, World.ownsRow_nil _ _ _ _, fun b e => (by cases e)⟩, ⟨(X3.out.get 0 rfl).1, (X3.out.get 1 rfl).1, (X3.out.get 2 rfl).1, (X3.out.get 3 rfl).1⟩, (Z3.out.get 0 rfl).1, .inl rfl, .inr (.inl rfl), .inr (.inr rfl), by omega, by omega, fun b hb => by rcases hb with rfl | rfl | rfl <;> omega, fun b hb => by rcases hb with rfl | rfl | rfl <;> omega⟩
  have HSEQ : Hid (∀ W', Below W3.heap.size W3 W' → W'.heap.size = W3.heap.size + 2 → SeqL Fence.wide 2 Try.prog 114 #[.pointer (some ⟨HS, 0, none⟩), .pointer (some ⟨HS + 1, 0, none⟩), .pointer (some ⟨HS + 1 + 1, 0, none⟩)] encH (GotH w H g.name g.args.length) ownH w.heap.size (DoneH H g.name g.args.length) StopH (fun b => (b = w.heap.size + 1 ∨ b = w.heap.size ∨ b = NB) ∨ b = W3.heap.size ∨ b = W3.heap.size + 1) W') := fun W' hb hs =>
    named_seq w W' HS (HS + 1) (HS + 1 + 1) (.slice ao H.length cap) H g.name g.args.length _ ⟨HH.out, hl, BIN.out.trans (hb.mono BIN.out.size), (hb.cell (p := ⟨HS, 0, none⟩) (by dsimp only; omega)).trans C3.out, (hb.cell (p := ⟨HS + 1, 0, none⟩) (by dsimp only; omega)).trans C4.out, (hb.cell (p := ⟨HS + 1 + 1, 0, none⟩) (by dsimp only; omega)).trans C5.out, (by omega), (by omega), (by omega), (fun b e => by omega)⟩ 2
  clear hhs hs3 hs2w B3 S3 C3 C4 C5 X2 Y2 Z2 X3 Y3 Z3 X0 Y0 B02 B2 B1 z0 CNd
  refine wpIn_rangeFunc_L rfl (by decide) (gf := 114) (lb := #[.pointer (some ⟨HS, 0, none⟩), .pointer (some ⟨HS + 1, 0, none⟩), .pointer (some ⟨HS + 1 + 1, 0, none⟩)]) rfl trivial (enters_of Try.func114 (by kernel_rfl) rfl)
    (encs := encH) (Got := GotH w H g.name g.args.length) (own := ownH) (n0 := w.heap.size) (M0 := fun b => b = w.heap.size + 1 ∨ b = w.heap.size ∨ b = NB) HSEQ.out BIN.out.size (fun _ => rfl)
    (fun pre x W W' h _ _ => h) (fun xs W o' h => h) (fun xs W o' h => h)
    (fun pre M W => OutI w.heap.size (w.heap.size + 1) w.heap.size NB g (.slice p0 g.args.length q0) W pre M ∧ ∀ x ∈ pre, H[x.1]? = some x.2.1) (fun _ _ _ _ => False)
    (fun pre M W W' h hs hb => ⟨h.1.rest hs hb, h.2⟩) (fun c pre M W W' h hs hb => h) (fun pre M W h => h.1.lt) (fun c pre M W h => h.elim) ⟨I0.out, fun x hx => (by cases hx)⟩
    (fun x W => { tmps := #[.slice ao H.length cap, .agg #[.int .i64 g.kind, .int .i64 g.num, .string g.name, .slice p0 g.args.length q0], undef, .pointer (some ⟨w.heap.size, 0, none⟩), .slice none 0 0, .pointer (some ⟨w.heap.size + 1, 0, none⟩), .string g.name, .pointer (some ⟨NB, 0, none⟩), .bool true, .int .i64 (x.1 : Nat), .pointer (some ⟨W.heap.size, 0, none⟩), .tuple #[.string g.name, .int .i64 g.args.length, .bool true], .agg #[.int .i64 g.kind, .int .i64 g.num, .string g.name, .slice p0 g.args.length q0], .tuple #[.string g.name, .int .i64 g.args.length, .bool true], .string g.name, .int .i64 g.args.length, .bool true, .bool true, .bool false, .slice ao H.length cap, .string g.name, .int .i64 g.args.length, .func (.func 114) #[] #[.pointer (some ⟨HS, 0, none⟩), .pointer (some ⟨HS + 1, 0, none⟩), .pointer (some ⟨HS + 1 + 1, 0, none⟩)], .int .i64 (x.1 : Nat), .agg #[.int .i64 x.2.1.kind, .int .i64 x.2.1.num, .string x.2.1.name, .slice x.2.2.1 x.2.1.args.length x.2.2.2], undef, undef, undef, undef, undef, undef, undef, undef, undef, undef, undef, undef, undef, undef, undef, undef, undef, undef], defers := [] })
    (fun x W => W.alloc (.cells #[.int .i64 x.2.1.kind, .int .i64 x.2.1.num, .string x.2.1.name, .slice x.2.2.1 x.2.1.args.length x.2.2.2] 24)) (fun x W => (Below.refl _ _).alloc (Nat.le_refl _) _)
    (fun x Wy W => BoxL W Wy.heap.size [.int .i64 x.2.1.kind, .int .i64 x.2.1.num, .string x.2.1.name, .slice x.2.2.1 x.2.1.args.length x.2.2.2])
    (fun x W o hlt => (BoxL.mk' W #[.int .i64 x.2.1.kind, .int .i64 x.2.1.num, .string x.2.1.name, .slice x.2.2.1 x.2.1.args.length x.2.2.2] 24).block (World.putObj_heap_other (by omega))) ?assign ?body ?done ?stop
  case assign =>
    intro l x W K hK
    dsimp only [encH]
    gi_wp2
    exact hK
  case body =>
    rintro l pre M ⟨i, t, pt, q1⟩ Wy W hLd ⟨hO, hpre⟩ ⟨hxp, hxi, hxh, hxt⟩ hown hsz hB
    dsimp only at hLd hxi hxh hxt hxp
    have hiH : i < H.length := (List.getElem?_eq_some_iff.1 hxi).1
    have hpl : pre.length ≤ 4096 := by have h1 := congrArg List.length hxp; rw [List.length_map] at h1; have h2 := namedTo_len H g.name g.args.length i; omega
    have hol : (outL g pre).length ≤ 4096 := by unfold outL; rw [List.length_map]; exact Nat.le_trans (List.length_filter_le _ _) hpl
    have hBW : Below w.heap.size w W := BIN.out.trans hB
    have htl : t.args.length = g.args.length := by
      unfold headOf at hxh
      simp only [Bool.and_eq_true, beq_iff_eq] at hxh
      omega
    have htok : t.ok := HOK.out t (List.mem_of_getElem? hxi)
    obtain ⟨b1, o1, a1, rfl, -, cu, tu⟩ := (TsAt.of_tm hxt).get 0 (by omega)
    obtain ⟨b2, o2, a2, rfl, -, cv, tv⟩ := (TsAt.of_tm HG.out).get 0 hgl
    have hu0 : t.args.getD 0 .nil = t.args[0] := by rw [List.getD_eq_getElem?_getD, List.getElem?_eq_getElem (by omega)]; rfl
    have hv0 : g.args.getD 0 .nil = g.args[0] := by rw [List.getD_eq_getElem?_getD, List.getElem?_eq_getElem hgl]; rfl
    have huok : t.args[0].ok := Tm.ok_args htok _ (List.getElem_mem _)
    have hvok : g.args[0].ok := Tm.ok_args HGO.out _ (List.getElem_mem _)
    obtain ⟨pu, qu, rfl, _⟩ := tu.shape
    obtain ⟨pv, qv, rfl, _⟩ := tv.shape
    have hkeep : keepOf g (i, t, some ⟨b1, o1, none⟩, q1) = !clashT t.args[0] g.args[0] := by unfold keepOf; simp only [hu0, hv0]; simp [hgl]
    have HKP := Lib.hid hkeep
    have cu' := cu.block (hBW.block _ cu.lt)
    have cv' := cv.block (hBW.block _ cv.lt)
    have CCl : Hid (∀ W, Calls Try.prog 46 #[.agg #[.int .i64 t.args[0].kind, .int .i64 t.args[0].num, .string t.args[0].name, .slice pu t.args[0].args.length qu], .agg #[.int .i64 g.args[0].kind, .int .i64 g.args[0].num, .string g.args[0].name, .slice pv g.args[0].args.length qv]] W fun e w' => e = .returned (.bool (clashT t.args[0] g.args[0])) ∧ Below W.heap.size W w') := fun W => clash_c _ _ _ _ _ _ W huok hvok
    clear hu0 hv0 hkeep huok hvok tu tv cu cv
    simp only [Nat.zero_mul, Nat.add_zero] at cu' cv'
    generalize t.args[0] = u at *
    generalize g.args[0] = v at *
    generalize clashT u v = cl at *
    have hS : Hid (∀ X, Below W.heap.size W X → X.cell? ⟨NB, 0, none⟩ = some (.int .i64 g.args.length) ∧ X.cell? ⟨Wy.heap.size, 3, none⟩ = some (.slice (some ⟨b1, o1, none⟩) t.args.length q1) ∧ X.cell? ⟨w.heap.size, 3, none⟩ = some (.slice (some ⟨b2, o2, none⟩) g.args.length q0) ∧ (X.cell? ⟨b1, o1, none⟩ = some (.int .i64 u.kind) ∧ X.cell? ⟨b1, o1 + 1, none⟩ = some (.int .i64 u.num) ∧ X.cell? ⟨b1, o1 + 2, none⟩ = some (.string u.name) ∧ X.cell? ⟨b1, o1 + 3, none⟩ = some (.slice pu u.args.length qu)) ∧ (X.cell? ⟨b2, o2, none⟩ = some (.int .i64 v.kind) ∧ X.cell? ⟨b2, o2 + 1, none⟩ = some (.int .i64 v.num) ∧ X.cell? ⟨b2, o2 + 2, none⟩ = some (.string v.name) ∧ X.cell? ⟨b2, o2 + 3, none⟩ = some (.slice pv v.args.length qv))) := fun X hX => by
      have hO' := hO.rest hX.size (fun b hb => hX.block b (hO.lt b hb))
      have hL' := hLd.below hX (hLd.lt (by simp))
      have cu2 := cu'.block (hX.block _ cu'.lt)
      have cv2 := cv'.block (hX.block _ cv'.lt)
      exact ⟨hO'.nc, (hL'.get 3 rfl).1, hO'.gc.2.2.2, ⟨cu2.c0, cu2.c1, cu2.c2, cu2.c3⟩, cv2.c0, cv2.c1, cv2.c2, cv2.c3⟩
    have HO := Lib.hid hO
    have HPRE := Lib.hid hpre
    have HXI := Lib.hid hxi
    have HBW := Lib.hid hBW
    have HBB := Lib.hid hB
    have hgi : (0 : Int) < g.args.length := by omega
    have hti : (0 : Int) < t.args.length := by omega
    clear hO hpre hxi hxh hxt hxp hown hBW hB cu' cv' htok hLd hpl
    dsimp only
    gi_wp2
    refine wpIn_region_roundK (by kernel_rfl) (noDefer_of (by kernel_rfl)) (S := fun W => W.cell? ⟨NB, 0, none⟩ = some (.int .i64 g.args.length) ∧ W.cell? ⟨Wy.heap.size, 3, none⟩ = some (.slice (some ⟨b1, o1, none⟩) t.args.length q1) ∧ W.cell? ⟨w.heap.size, 3, none⟩ = some (.slice (some ⟨b2, o2, none⟩) g.args.length q0) ∧ (W.cell? ⟨b1, o1, none⟩ = some (.int .i64 u.kind) ∧ W.cell? ⟨b1, o1 + 1, none⟩ = some (.int .i64 u.num) ∧ W.cell? ⟨b1, o1 + 2, none⟩ = some (.string u.name) ∧ W.cell? ⟨b1, o1 + 3, none⟩ = some (.slice pu u.args.length qu)) ∧ (W.cell? ⟨b2, o2, none⟩ = some (.int .i64 v.kind) ∧ W.cell? ⟨b2, o2 + 1, none⟩ = some (.int .i64 v.num) ∧ W.cell? ⟨b2, o2 + 2, none⟩ = some (.string v.name) ∧ W.cell? ⟨b2, o2 + 3, none⟩ = some (.slice pv v.args.length qv))) ?hS (fun hHeld => ?_)
    case hS => exact hS.out _ (Below.refl _ _).drew
    refine wpAnyH_takeD (i := 0) (d := some 25) (v := .int .i64 g.args.length) rfl rfl (by kernel_rfl) (by kernel_rfl) (by kernel_rfl) (fun _ _ _ h => h) (Or.inl ⟨by rfl, ?_⟩) hHeld ?_
    · intro w hSw; go_simp
    simp only [Act.put, List.setIfInBounds_toArray, List.set_cons_zero, List.set_cons_succ]
    refine wpAnyH_takeD (i := 1) (d := some 26) (v := .bool true) rfl rfl (by kernel_rfl) (by kernel_rfl) (by kernel_rfl) (fun _ _ _ h => h) (Or.inl ⟨by rfl, ?_⟩) hHeld ?_
    · intro w hSw; go_simp
    simp only [Act.put, List.setIfInBounds_toArray, List.set_cons_zero, List.set_cons_succ]
    refine wpAnyH_takeD (i := 2) (d := some 27) (v := .bool true) rfl rfl (by kernel_rfl) (by kernel_rfl) (by kernel_rfl) (fun _ _ _ h => h) (Or.inl ⟨by rfl, ?_⟩) hHeld ?_
    · intro w hSw; go_simp
    simp only [Act.put, List.setIfInBounds_toArray, List.set_cons_zero, List.set_cons_succ]
    refine wpAnyH_takeD (i := 3) (d := some 28) (v := .pointer (some ⟨Wy.heap.size, 3, none⟩)) rfl rfl (by kernel_rfl) (by kernel_rfl) (by kernel_rfl) (fun _ _ _ h => h) (Or.inl ⟨by rfl, ?_⟩) hHeld ?_
    · intro w hSw; go_simp
    simp only [Act.put, List.setIfInBounds_toArray, List.set_cons_zero, List.set_cons_succ]
    refine wpAnyH_takeD (i := 4) (d := some 29) (v := .slice (some ⟨b1, o1, none⟩) t.args.length q1) rfl rfl (by kernel_rfl) (by kernel_rfl) (by kernel_rfl) (fun _ _ _ h => h) (Or.inl ⟨by rfl, ?_⟩) hHeld ?_
    · intro w hSw; go_simp
    simp only [Act.put, List.setIfInBounds_toArray, List.set_cons_zero, List.set_cons_succ]
    refine wpAnyH_takeD (i := 5) (d := some 30) (v := .pointer (some ⟨b1, o1, none⟩)) rfl rfl (by kernel_rfl) (by kernel_rfl) (by kernel_rfl) (fun _ _ _ h => h) (Or.inl ⟨by rfl, ?_⟩) hHeld ?_
    · intro w hSw; go_simp
    simp only [Act.put, List.setIfInBounds_toArray, List.set_cons_zero, List.set_cons_succ]
    refine wpAnyH_takeD (i := 6) (d := some 31) (v := .agg #[.int .i64 u.kind, .int .i64 u.num, .string u.name, .slice pu u.args.length qu]) rfl rfl (by kernel_rfl) (by kernel_rfl) (by kernel_rfl) (fun _ _ _ h => h) (Or.inl ⟨by rfl, ?_⟩) hHeld ?_
    · intro w hSw; go_simp
    simp only [Act.put, List.setIfInBounds_toArray, List.set_cons_zero, List.set_cons_succ]
    refine wpAnyH_takeD (i := 7) (d := some 32) (v := .pointer (some ⟨w.heap.size, 3, none⟩)) rfl rfl (by kernel_rfl) (by kernel_rfl) (by kernel_rfl) (fun _ _ _ h => h) (Or.inl ⟨by rfl, ?_⟩) hHeld ?_
    · intro w hSw; go_simp
    simp only [Act.put, List.setIfInBounds_toArray, List.set_cons_zero, List.set_cons_succ]
    refine wpAnyH_takeD (i := 8) (d := some 33) (v := .slice (some ⟨b2, o2, none⟩) g.args.length q0) rfl rfl (by kernel_rfl) (by kernel_rfl) (by kernel_rfl) (fun _ _ _ h => h) (Or.inl ⟨by rfl, ?_⟩) hHeld ?_
    · intro w hSw; go_simp
    simp only [Act.put, List.setIfInBounds_toArray, List.set_cons_zero, List.set_cons_succ]
    refine wpAnyH_takeD (i := 9) (d := some 34) (v := .pointer (some ⟨b2, o2, none⟩)) rfl rfl (by kernel_rfl) (by kernel_rfl) (by kernel_rfl) (fun _ _ _ h => h) (Or.inl ⟨by rfl, ?_⟩) hHeld ?_
    · intro w hSw; go_simp
    simp only [Act.put, List.setIfInBounds_toArray, List.set_cons_zero, List.set_cons_succ]
    refine wpAnyH_takeD (i := 10) (d := some 35) (v := .agg #[.int .i64 v.kind, .int .i64 v.num, .string v.name, .slice pv v.args.length qv]) rfl rfl (by kernel_rfl) (by kernel_rfl) (by kernel_rfl) (fun _ _ _ h => h) (Or.inl ⟨by rfl, ?_⟩) hHeld ?_
    · intro w hSw; go_simp
    simp only [Act.put, List.setIfInBounds_toArray, List.set_cons_zero, List.set_cons_succ]
    clear hHeld
    refine wpAnyH_ready (rs := [11]) (by kernel_rfl) (by simp) ?_
    refine AllReadyH.cons rfl (fun K hK => ?_) AllReadyH.nil
    go_simp
    go_at_call 46
    refine (CCl.out _).mono ?_
    rintro e W8 ⟨rfl, b8⟩
    have B8 : Hid (Below W.heap.size W W8) := Below.trans ((Below.refl _ _).drew) b8
    clear b8
    go_simp
    refine hK.out _ _ ?_ (fun hHeld => ?_)
    · exact hS.out _ B8.out
    clear hK K
    try simp only [Act.put, List.setIfInBounds_toArray, List.set_cons_zero, List.set_cons_succ]
    refine wpAnyH_takeD (i := 12) (d := some 37) (v := .bool cl) rfl rfl (by kernel_rfl) (by kernel_rfl) (by kernel_rfl) (fun _ _ _ h => h) (Or.inl ⟨by rfl, ?_⟩) hHeld ?_
    · intro w hSw; go_simp
    simp only [Act.put, List.setIfInBounds_toArray, List.set_cons_zero, List.set_cons_succ]
    refine wpAnyH_done (by kernel_rfl) ?_ _
    have HO8 : Hid (OutI w.heap.size (w.heap.size + 1) w.heap.size NB g (.slice (some ⟨b2, o2, none⟩) g.args.length q0) W8 pre M) := HO.out.rest B8.out.size (fun b hb => B8.out.block b (HO.out.lt b hb))
    have HP8 : Hid (∀ y ∈ pre ++ [(i, t, some ⟨b1, o1, none⟩, q1)], H[y.1]? = some y.2.1) := fun y hy => by
      rcases List.mem_append.1 hy with hy | hy
      · exact HPRE.out y hy
      · obtain rfl := List.mem_singleton.1 hy; exact HXI.out
    cases cl with
    | true =>
      have HF : Hid (OutI w.heap.size (w.heap.size + 1) w.heap.size NB g (.slice (some ⟨b2, o2, none⟩) g.args.length q0) W8 (pre ++ [(i, t, some ⟨b1, o1, none⟩, q1)]) M) := HO8.out.skip (by rw [HKP.out]; rfl)
      gi_wp2
      exact ⟨M, fun b hb => .inl (.inl hb), Agr.of_below B8.out, HF.out, HP8.out⟩
    | false =>
      obtain ⟨vo, hc, hf, hrow, hvm⟩ := HO8.out.row
      obtain ⟨av, cvv, rfl, _⟩ := (SlAt.of_own hrow).shape
      obtain ⟨t0, ht, hz0', hz1', hz2'⟩ := info_parts Try.infoInt
      have hob := HO8.out.lt _ HO8.out.mo
      have hvob : (Value.slice av (outL g pre).length cvv).ownBlock ≠ some (w.heap.size + 1) := fun e => by have := (hrow.lt _ e).1; omega
      have HC := Lib.hid hc
      clear hvm
      gi_wp2_with (gi_at_builtin; refine wpListIn_append_own_at _ rfl (.tmp 38) (.tmp 40) 29 rfl (w.heap.size + 1 + 1) 3 t0 (.int .i64 0) 1 8 Try.underlying29 ht hz0' hz1' hz2' rfl (by decide) (.slice av (outL g pre).length cvv) (outL g pre).length ((outL g pre).map (Value.int .i64)) rfl (hrow.alloc _) ⟨W8.heap.size, 0, none⟩ 1 1 [.int .i64 i] rfl rfl (cell_one_new _ _ _) (one1 rfl) (by unfold maxLen; omega) (by omega) (by simp; omega) ?_; intro v' w1 r1 r2 r3 r4; obtain ⟨g7, cap7, rfl, _, _⟩ := r1.form (Nat.succ_pos _); have hw1 : (∀ b, b < W8.heap.size → (Value.slice av (outL g pre).length cvv).ownBlock ≠ some b → w1.heap[b]? = W8.heap[b]?) := (fun b hb hne => (r2.block b (by simp; omega) (fun e => hne e.symm)).trans (Below.heap_alloc W8 _ b hb)); have k1 := (World.cell?_of_block (a := ⟨w.heap.size + 1, 0, none⟩) (hw1 _ hob hvob)).trans hc; have k1f := (World.frozen?_of_block (a := ⟨w.heap.size + 1, 0, none⟩) (hw1 _ hob hvob)).trans hf; have k2 : (∀ u, (w1.setCell ⟨w.heap.size + 1, 0, none⟩ u).cell? ⟨w.heap.size + 1, 0, none⟩ = some u) := (fun u => World.cell?_setCell_same _ _ _ k1))
      obtain ⟨M', p1, p2, p3⟩ := OutI.push HO8.out HC.out (by rw [HKP.out]; rfl) r1 r2 r4
      exact ⟨M', fun b hb => (p1 b hb).elim (fun h => .inl (.inl h)) (fun h => .inr (Nat.le_trans B8.out.size h)), (Agr.of_below B8.out).trans p2 (fun b _ h => h) (fun b _ h => .inl h), p3, HP8.out⟩
  case done =>
    rintro D xs M W hd ⟨hO, hpre⟩ hK hDl hDm hB
    have hbo : Below w.heap.size w (W.putObj D (.deferred none)) := (BIN.out.trans hB).grown (grownBy_putObj' _ _ _) (by have := (BIN.out.trans hB).size; omega) (fun k e => by cases e; have := BIN.out.size; omega)
    have hO2 : OutI w.heap.size (w.heap.size + 1) w.heap.size NB g (.slice p0 g.args.length q0) (W.putObj D (.deferred none)) xs M := hO.rest (by simp) (fun b hm => World.putObj_heap_other (fun e => hDm (by rw [← e]; exact hm)))
    obtain ⟨vo, hco, _, hro, _⟩ := hO2.row
    obtain ⟨ao', cap', rfl, _⟩ := (SlAt.of_own hro).shape
    have hx : W.cell? ⟨w.heap.size + 1, 0, none⟩ = some (.slice ao' (outL g xs).length cap') := (World.cell?_of_block (a := ⟨w.heap.size + 1, 0, none⟩) (World.putObj_heap_other (w := W) (o := .deferred none) (fun e => hDm (by rw [← e]; exact hO.mo)))).symm.trans hco
    have HE : Hid (outL g xs = (whichI H g).map (fun (i : Nat) => (i : Int))) := outL_which hd hpre
    have HLS := Lib.hid (SlAt.of_own hro)
    have HBO := Lib.hid hbo
    clear hO hO2 hro hbo hB hpre hd
    go_wp2
    refine ⟨by simp, .inl ⟨_, _, rfl, run_takeDeferred hK, ?_⟩⟩
    refine ⟨_, by simp [results, Try.results47, go_sem]; rfl, ?_⟩
    rw [← HE.out]
    exact ⟨_, _, rfl, HLS.out, HBO.out⟩
  case stop =>
    rintro D c pre M W _ hO
    exact hO.elim
end Go.Proofs.Ytmffobadnmkpbaa
