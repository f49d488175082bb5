/-
  THE QUEUE OF CONSTRAINTS IN MEMORY; its small methods, walked.
  PLAIN LAWS: what a constraint says once loses no values for which it holds; of single integers it says whether it holds; of smaller sets it says smaller ones.
  PLAIN LAWS: of single integers a constraint says whether it holds for them; of smaller sets it says smaller ones, or nothing.
-/
import Derived.Test.YtaekdgikgbdnnaaGreatKlib1
import Derived.Test.YtaekdgikgbdnnaaGreatKonce2
import Derived.Test.YtaekdgikgbdnnaaGreatKlin4
import Derived.Test.YtaekdgikgbdnnaaGreatKonce1
namespace Go.Proofs.YtaekdgikgbdnnaaGreat
open Go.RowKit

/-- w' is w but for block qb, the row's block, and new memory; the row lies where it did or in new memory -/
structure QSt (qb : Nat) (w : World) (pl : Value) (w' : World) (pl' : Value) : Prop where
  b0 : Below 0 w w'
  blk : ∀ b, b < w.heap.size → b ≠ qb → pl.ownBlock ≠ some b → w'.heap[b]? = w.heap[b]?
  row : ∀ b, pl'.ownBlock = some b → pl.ownBlock = some b ∨ w.heap.size ≤ b
theorem QSt.refl (qb : Nat) (w : World) (pl : Value) : QSt qb w pl w pl := ⟨Below.refl _ _, fun _ _ _ _ => rfl, fun _ h => .inl h⟩
theorem QSt.trans {qb : Nat} {w1 w2 w3 : World} {p1 p2 p3 : Value} (h : QSt qb w1 p1 w2 p2) (g : QSt qb w2 p2 w3 p3) : QSt qb w1 p1 w3 p3 where
  b0 := h.b0.trans g.b0
  blk := fun b hb hq hp => by
    refine (g.blk b (Nat.lt_of_lt_of_le hb h.b0.size) hq (fun e => ?_)).trans (h.blk b hb hq hp)
    rcases h.row b e with h1 | h1
    · exact hp h1
    · omega
  row := fun b hb => by
    rcases g.row b hb with h1 | h1
    · exact h.row b h1
    · exact .inr (Nat.le_trans h.b0.size h1)
theorem QSt.of_below {qb : Nat} {w w' : World} {pl : Value} (h : Below w.heap.size w w') : QSt qb w pl w' pl := ⟨h.mono (Nat.zero_le _), fun b hb _ _ => h.block b hb, fun _ h => .inl h⟩
theorem QSt.below {qb B : Nat} {w w' : World} {pl pl' : Value} (h : QSt qb w pl w' pl') (hq : B ≤ qb) (hp : ∀ b, pl.ownBlock = some b → B ≤ b) (hB : B ≤ w.heap.size) : Below B w w' :=
  ⟨h.b0.os, h.b0.tape, h.b0.output, h.b0.size, fun k hk => h.blk k (by omega) (by omega) (fun e => by have := hp k e; omega)⟩

/-- block qb is a queue: its places (in a row of its own), its constraints, its map -/
structure QAt (w : World) (qb mb B : Nat) (pl vp : Value) (L : List Int) : Prop where
  c0 : w.cell? ⟨qb, 0, none⟩ = some pl
  c1 : w.cell? ⟨qb, 1, none⟩ = some vp
  c2 : w.cell? ⟨qb, 2, none⟩ = some (.map (some mb))
  f0 : w.frozen? ⟨qb, 0, none⟩ = false
  own : w.ownsRow B 3 1 pl L.length (L.map (Value.int .i64))
  lq : qb < B
  lm : mb < B
theorem QAt.lt {w : World} {qb mb B : Nat} {pl vp : Value} {L : List Int} (h : QAt w qb mb B pl vp L) : qb < w.heap.size := World.block_lt_of_cell? w ⟨qb, 0, none⟩ h.c0
theorem QAt.below {w w' : World} {qb mb B : Nat} {pl vp : Value} {L : List Int} (h : QAt w qb mb B pl vp L) (hb : Below w.heap.size w w') : QAt w' qb mb B pl vp L :=
  have e := hb.block qb h.lt
  ⟨(World.cell?_of_block (a := ⟨qb, 0, none⟩) e).trans h.c0, (World.cell?_of_block (a := ⟨qb, 1, none⟩) e).trans h.c1, (World.cell?_of_block (a := ⟨qb, 2, none⟩) e).trans h.c2, (World.frozen?_of_block (a := ⟨qb, 0, none⟩) e).trans h.f0, own_below h.own hb, h.lq, h.lm⟩

theorem own_cap1 {w : World} {B e g n cap : Nat} {xs : List Value} (h : w.ownsRow B e 1 (.slice (some ⟨g, 0, none⟩) n cap) n xs) : n ≤ cap ∧ cap ≤ maxLen := by
  obtain ⟨a, c, he, h1, h2⟩ := SlAt.shape (SlAt.of_own h)
  cases he
  exact ⟨h1, h2⟩
theorem own_short {w : World} {B e g n m cap : Nat} {xs : List Value} (h : w.ownsRow B e 1 (.slice (some ⟨g, 0, none⟩) n cap) n xs) (hm : m ≤ n) : w.ownsRow B e 1 (.slice (some ⟨g, 0, none⟩) m cap) m (xs.take m) := by
  rcases h.2 with ⟨h', _⟩ | ⟨g', cap', cur, h', hb, hg, hnc, hcm, hcs, htake⟩
  · simp at h'
  · simp only [Value.slice.injEq, Option.some.injEq, Addr.mk.injEq, and_true, true_and] at h'
    obtain ⟨rfl, rfl⟩ := h'
    have hl := h.1
    refine ⟨by rw [List.length_take]; omega, .inr ⟨g, cap, cur, rfl, hb, hg, by omega, hcm, hcs, ?_⟩⟩
    rw [← htake, List.take_take, Nat.mul_one, Nat.mul_one]
    congr 1; omega
def wgt (kind : Int) (n1 n2 : Nat) : Int := if kind = 2 then 1000 else if kind = 3 then 100 + n2 else n1
set_option maxRecDepth 100000 in
theorem weight_c (kind : Int) (a0 a1 a2 : Option Addr) (n0 n1 n2 c0 c1 c2 : Nat) (rel c x y z : Int) (w : World) (h2 : n2 ≤ 4096) :
    Calls Tryz.prog 153 #[.agg #[.int .i64 kind, .slice a0 n0 c0, .slice a1 n1 c1, .int .i64 rel, .int .i64 c, .int .i64 x, .int .i64 y, .int .i64 z, .slice a2 n2 c2]] w
      fun e w' => e = .returned (.int .i64 (wgt kind n1 n2)) ∧ Below w.heap.size w w' := by
  have HZ : Hid (∀ o, Below w.heap.size w (w.alloc o)) := fun o => (Below.refl _ _).alloc (Nat.le_refl _) _
  by_cases k2 : kind = 2
  · have g2 : (kind == 2) = true := by simpa using k2
    have HR : Hid (wgt kind n1 n2 = 1000) := by show _ = _; unfold wgt; rw [if_pos k2]
    clear k2
    go_enter Tryz.func153, Tryz.ntmps153
    go_wp2
    go_ret
    exact ⟨ret_int HR.out.symm, HZ.out _⟩
  have g2 : (kind == 2) = false := by simpa using k2
  by_cases k3 : kind = 3
  · have g3 : (kind == 3) = true := by simpa using k3
    have HR : Hid (wgt kind n1 n2 = 100 + n2) := by show _ = _; unfold wgt; rw [if_neg k2, if_pos k3]
    clear k2 k3
    go_enter Tryz.func153, Tryz.ntmps153
    go_wp2
    go_ret
    exact ⟨ret_int HR.out.symm, HZ.out _⟩
  have g3 : (kind == 3) = false := by simpa using k3
  have HR : Hid (wgt kind n1 n2 = n1) := by show _ = _; unfold wgt; rw [if_neg k2, if_neg k3]
  clear k2 k3
  go_enter Tryz.func153, Tryz.ntmps153
  go_wp2
  go_ret
  exact ⟨ret_int HR.out.symm, HZ.out _⟩

theorem qlen_c (ao : Option Addr) (n c : Nat) (w : World) : Calls Tryz.prog 64 #[.slice ao n c] w fun e w' => e = .returned (.int .i64 n) ∧ w = w' := by
  go_enter Tryz.func64, Tryz.ntmps64
  go_wp2
  go_ret
  exact ⟨rfl, rfl⟩

@[go_sem] theorem ta_int (i : Int) (W : World) : (Instr.typeAssert (.iface 3 (.int .i64 i)) 20 3 false).run Tryz.prog W = .ok (.int .i64 i) W := by kernel_rfl
set_option maxRecDepth 100000 in
theorem qpush_c (qb mb B : Nat) (pl vp : Value) (L : List Int) (i : Int) (w : World) (h : QAt w qb mb B pl vp L) (hl : L.length ≤ 4096) (hB : B ≤ w.heap.size) :
    Calls Tryz.prog 151 #[.pointer (some ⟨qb, 0, none⟩), .iface 3 (.int .i64 i)] w
      fun e w' => (∃ u, e = .returned u) ∧ ∃ pl', QAt w' qb mb B pl' vp (L ++ [i]) ∧ QSt qb w pl w' pl' := by
  obtain ⟨i0, hi, hz0, hz1, hz2⟩ := info_parts Tryz.infoInt
  have H := Lib.hid h
  have c0 := h.c0
  have f0 := h.f0
  have ow := h.own
  obtain ⟨ao, cap, rfl, _⟩ := (SlAt.of_own ow).shape
  have ma : ∀ o, (w.alloc o).cell? ⟨qb, 0, none⟩ = some (.slice ao L.length cap) := fun o => Lib.cell?_alloc_some o c0
  have HA : Hid (∀ o, Below B w (w.alloc o).drew) := fun o => below_drewN ((Below.refl B w).alloc hB _) 1
  clear h
  go_enter Tryz.func151, Tryz.ntmps151
  go_wp2
  go_region_law
    ((refine step_append1 rfl (.tmp 7) (.tmp 10) 101 rfl B 3 i0 (.int .i64 0) 8 Tryz.underlying101 hi hz0 hz1 hz2 rfl _ _ _ rfl (World.ownsRow.drew (ow.alloc _)) (.int .i64 i) _ rfl ?_ rfl ?_ ?_ ?_; (· simp); (· omega); (· simp; omega); intro g1 cap1 w1 ow1 bw1 kw1 aw1; have mm := (((HA.out _).trans bw1).cell (p := ⟨qb, 0, none⟩) H.out.lq).trans H.out.c0; have mf := (((HA.out _).trans bw1).frozen (p := ⟨qb, 0, none⟩) H.out.lq).trans H.out.f0))
  all_goals
    go_end0
    refine ⟨⟨_, rfl⟩, .slice (some ⟨g1, 0, none⟩) (L.length + 1) cap1, ?_, ?_⟩
    · have hb := (HA.out _).trans bw1
      have e1 := (hb.cell (p := ⟨qb, 1, none⟩) H.out.lq).trans H.out.c1
      have e2 := (hb.cell (p := ⟨qb, 2, none⟩) H.out.lq).trans H.out.c2
      refine ⟨World.cell?_setCell_same _ _ _ mm, (World.cell?_setCell_other _ _ _ _ (by simp)).trans e1, (World.cell?_setCell_other _ _ _ _ (by simp)).trans e2, by rw [World.frozen?_setCell]; exact mf, ?_, H.out.lq, H.out.lm⟩
      rw [List.length_append, List.length_singleton, List.map_append]
      exact own_setCell ow1 (a := ⟨qb, 0, none⟩) H.out.lq _
    · have hb := (HA.out _).trans bw1
      refine ⟨(hb.mono (Nat.zero_le _)).setCell (p := ⟨qb, 0, none⟩) (Nat.zero_le _) _, fun b hbl hq hp => ?_, fun b hb1 => ?_⟩
      · rw [Below.heap_setCell _ _ _ _ hq, kw1 b (by simp [World.drew]; omega) hp]
        exact Below.heap_alloc w _ b hbl
      · simp [Value.ownBlock] at hb1
        subst hb1
        rcases aw1 with h | h
        · exact .inl h
        · right; rw [h]; simp [World.drew]

set_option maxRecDepth 100000 in
set_option maxHeartbeats 1600000 in
theorem qpop_c (qb mb B : Nat) (pl vp : Value) (L : List Int) (i : Int) (w : World) (h : QAt w qb mb B pl vp (L ++ [i])) (hl : L.length ≤ 4096) :
    Calls Tryz.prog 150 #[.pointer (some ⟨qb, 0, none⟩)] w
      fun e w' => e = .returned (.iface 3 (.int .i64 i)) ∧ ∃ pl', QAt w' qb mb B pl' vp L ∧ QSt qb w pl w' pl' := by
  have H := Lib.hid h
  have c0 := h.c0
  have f0 := h.f0
  have ow := h.own
  have hle : (L ++ [i]).length = L.length + 1 := by simp
  rw [hle] at ow
  obtain ⟨g, cap, rfl, hgb, hcells⟩ := owns_pos ow (by omega)
  have x0 := hcells L.length (by omega)
  rw [List.map_append, List.getElem?_append_right (by simp), List.length_map, Nat.sub_self] at x0
  simp only [List.map_cons, List.map_nil, List.getElem?_cons_zero] at x0
  have hcp := (own_cap1 ow)
  have HOW := Lib.hid ow
  clear h hcells ow hle
  go_enter Tryz.func150, Tryz.ntmps150
  go_wp2
  go_ret
  refine ⟨rfl, .slice (some ⟨g, 0, none⟩) L.length cap, ?_, ?_⟩
  · have e1 := H.out.c1
    have e2 := H.out.c2
    refine ⟨World.cell?_setCell_same _ _ _ c0, (World.cell?_setCell_other _ _ _ _ (by simp)).trans e1, (World.cell?_setCell_other _ _ _ _ (by simp)).trans e2, by rw [World.frozen?_setCell]; exact f0, ?_, H.out.lq, H.out.lm⟩
    have h1 := own_short HOW.out (Nat.le_succ L.length)
    rw [List.map_append, List.take_left' (by simp)] at h1
    exact own_setCell h1 (a := ⟨qb, 0, none⟩) H.out.lq _
  · refine ⟨(Below.refl 0 w).setCell (p := ⟨qb, 0, none⟩) (Nat.zero_le _) _, fun b hbl hq hp => Below.heap_setCell _ _ _ _ hq, fun b hb1 => .inl hb1⟩

def swapL (L : List Int) (i k : Nat) : List Int := (L.set i (L.getD k 0)).set k (L.getD i 0)
theorem swapL_len (L : List Int) (i k : Nat) : (swapL L i k).length = L.length := by simp [swapL]
set_option maxRecDepth 100000 in
theorem qswap_c (B : Nat) (pl : Value) (L : List Int) (i k : Nat) (w : World) (h : w.ownsRow B 3 1 pl L.length (L.map (Value.int .i64))) (hi : i < L.length) (hk : k < L.length) (hl : L.length ≤ 4097) :
    Calls Tryz.prog 152 #[pl, .int .i64 i, .int .i64 k] w
      fun e w' => (∃ u, e = .returned u) ∧ w'.ownsRow B 3 1 pl L.length ((swapL L i k).map (Value.int .i64)) ∧ ∀ qb, (pl.ownBlock ≠ some qb) → QSt qb w pl w' pl := by
  obtain ⟨g, cap, rfl, hgb, hcells⟩ := owns_pos h (by omega)
  have xi := hcells i (by omega)
  have xk := hcells k (by omega)
  rw [List.getElem?_map, List.getElem?_eq_getElem hi] at xi
  rw [List.getElem?_map, List.getElem?_eq_getElem hk] at xk
  simp only [Option.map_some] at xi xk
  have fi := h.frozenAt i
  have fk := h.frozenAt k
  have hcp := own_cap1 h
  have HOW := Lib.hid h
  have e : Hid (swapL L i k = (L.set i L[k]).set k L[i]) := by show _ = _; unfold swapL; rw [List.getD_eq_getElem?_getD, List.getD_eq_getElem?_getD, List.getElem?_eq_getElem hk, List.getElem?_eq_getElem hi]; rfl
  have j1 : (i : Int) < L.length := by omega
  have j2 : (k : Int) < L.length := by omega
  generalize hyi : L[i] = yi at *
  generalize hyk : L[k] = yk at *
  have hz : (w.setCell ⟨g, i, none⟩ (.int .i64 yk)).cell? ⟨g, k, none⟩ = some (.int .i64 yk) := by
    by_cases hik : i = k
    · subst hik; exact World.cell?_setCell_same _ _ _ xi
    · rw [World.cell?_setCell_other _ _ _ _ (fun he => hik (by injection he))]; exact xk
  clear h hcells hyi hyk
  go_enter Tryz.func152, Tryz.ntmps152
  go_wp2
  go_region
  all_goals
    go_end0
    refine ⟨⟨_, rfl⟩, ?_, fun qb hqb => ?_⟩
    · have h1 := (HOW.out.stored i (.int .i64 yk)).1
      have h2 := (h1.stored k (.int .i64 yi)).1
      rw [e.out, List.map_set, List.map_set]
      exact h2
    · refine ⟨(((Below.refl 0 w).setCell (p := ⟨g, i, none⟩) (Nat.zero_le _) _).setCell (p := ⟨g, k, none⟩) (Nat.zero_le _) _).drew, fun b hbl hq hp => ?_, fun b hb1 => .inl hb1⟩
      have hbg : b ≠ g := fun e => hp (by rw [e]; rfl)
      rw [show ((w.setCell ⟨g, i, none⟩ (.int .i64 yk)).setCell ⟨g, k, none⟩ (.int .i64 yi)).drew.heap[b]? = ((w.setCell ⟨g, i, none⟩ (.int .i64 yk)).setCell ⟨g, k, none⟩ (.int .i64 yi)).heap[b]? from rfl, Below.heap_setCell _ _ _ _ hbg, Below.heap_setCell _ _ _ _ hbg]
end Go.Proofs.YtaekdgikgbdnnaaGreat
namespace Go.Proofs.YtaekdgikgbdnnaaGreat

/-- the value in a place, 0 outside -/
def valP (x : List Int) (n : Int) : Int := if n < 0 ∨ (x.length : Int) ≤ n then 0 else x.getD n.toNat 0
theorem valP_in {x : List Int} {n : Int} (h : 0 ≤ n ∧ n.toNat < x.length) : valP x n = x.getD n.toNat 0 := by
  unfold valP; rw [if_neg (by omega)]
def sumV (x : List Int) (ps : Ps) : Int := (ps.map fun p => p.1 * valP x p.2).sum
def unlike (x : List Int) (l : List Int) : Bool := (List.range l.length).all fun i => (List.range i).all fun k => decide (valP x (l.getD k 0) ≠ valP x (l.getD i 0))
/-- does a constraint hold for these values? -/
def holdsP (p : PL) (x : List Int) : Bool :=
  if p.kind = 1 then holdsS p.rel p.c (sumV x (p.coef.zip p.vars))
  else if p.kind = 2 then decide (valP x p.x * valP x p.y = valP x p.z)
  else if p.kind = 3 then unlike x p.vs
  else (decide (valP x p.x = 1) && holdsS p.rel p.c (sumV x (p.coef.zip p.vars))) || (decide (valP x p.x = 0) && !holdsS p.rel p.c (sumV x (p.coef.zip p.vars)))
theorem sumV_in (x : List Int) : ∀ (ps : Ps), (∀ p ∈ ps, 0 ≤ p.2 ∧ p.2.toNat < x.length) → sumV x ps = sumX x ps
  | [], _ => rfl
  | p :: ps, h => by
    have h1 := sumV_in x ps (fun q hq => h q (List.mem_cons_of_mem _ hq))
    unfold sumV sumX at *
    rw [List.map_cons, List.map_cons, List.sum_cons, List.sum_cons, h1, valP_in (h p (by simp))]
/-- the negation's sum -/
theorem sumX_neg (x : List Int) : ∀ (a b : List Int), sumX x ((a.map fun k => -k).zip b) = -sumX x (a.zip b)
  | [], b => by simp [sumX]
  | _ :: _, [] => by simp [sumX]
  | k :: a, v :: b => by
    have := sumX_neg x a b
    unfold sumX at *
    simp only [List.map_cons, List.zip_cons_cons, List.sum_cons] at *
    rw [this, Int.neg_mul]; omega
theorem holds_not (rel c : Int) (hr : rel = 1 ∨ rel = 2 ∨ rel = 3) (x : List Int) (coef vars : List Int) :
    holdsS (notRel rel) (notC rel c) (sumX x ((notCoef rel coef).zip vars)) = !holdsS rel c (sumX x (coef.zip vars)) := by
  rcases hr with rfl | rfl | rfl
  · simp [notRel, notC, notCoef, holdsS]
  · simp [notRel, notC, notCoef, holdsS]
  · have e : notCoef 3 coef = coef.map fun k => -k := by simp [notCoef]
    rw [e, sumX_neg]
    simp only [notRel, notC, holdsS]
    rw [Bool.eq_iff_iff]
    simp; omega
theorem zip_vars {a b : List Int} : ∀ p ∈ a.zip b, p.2 ∈ b := fun _ h => (List.of_mem_zip h).2
theorem prod_mono {a b e f x y : Int} (hx : a ≤ x ∧ x ≤ b) (hy : e ≤ y ∧ y ≤ f) : min4 (a * e) (a * f) (b * e) (b * f) ≤ x * y ∧ x * y ≤ max4 (a * e) (a * f) (b * e) (b * f) := by
  -- x * y between a * y and b * y, each between its own ends
  have h : ∀ z w u v : Int, z ≤ w → w ≤ v → (∀ t : Int, min (z * t) (v * t) ≤ w * t ∧ w * t ≤ max (z * t) (v * t)) := fun z w u v h1 h2 t => by
    rcases (show 0 ≤ t ∨ t < 0 by omega) with ht | ht
    · have := Int.mul_le_mul_of_nonneg_right h1 ht
      have := Int.mul_le_mul_of_nonneg_right h2 ht
      omega
    · have := Int.mul_le_mul_of_nonpos_right h1 (Int.le_of_lt ht)
      have := Int.mul_le_mul_of_nonpos_right h2 (Int.le_of_lt ht)
      omega
  have h1 := h a x 0 b hx.1 hx.2 y
  have h2 := h e y 0 f hy.1 hy.2 a
  have h3 := h e y 0 f hy.1 hy.2 b
  rw [Int.mul_comm e a, Int.mul_comm y a, Int.mul_comm f a] at h2
  rw [Int.mul_comm e b, Int.mul_comm y b, Int.mul_comm f b] at h3
  unfold min4 max4
  omega
theorem lo_hi {d : List Rg} {x : Int} (h : Normal d) (hx : memL d x = true) : loD d ≤ x ∧ x ≤ hiD d := by
  have := ends_mem d x (by rw [norm_of_normal h]; exact hx)
  exact ⟨this.1, this.2.1⟩
theorem factors_mem {d : List Rg} (h : Normal d) (lo hi a b v : Int) : memL (factorsL d lo hi a b) v = (memL d v && hasW v lo hi a b) := by
  unfold factorsL
  rw [canon_mem]
  cases hm : memL d v with
  | false => simp
  | true => obtain ⟨h1, h2⟩ := memL_bounds h hm; simp [h1, h2]
theorem compl_mem {d : List Rg} {x : Int} (h1 : -200 ≤ x) (h2 : x ≤ 200) : memL (complL d) x = !memL d x := by
  unfold complL; rw [canon_mem]; simp [h1, h2]
theorem mem_diffTo {l : List Int} {was : Ds} {k : Int × List Rg} {n : Nat} : k ∈ diffTo l was n ↔ ∃ i, i < n ∧ sizeL (norm (domOf was (l.getD i 0))) = 1 ∧ ∃ m, m < l.length ∧ m ≠ i ∧ k = (l.getD m 0, complL (domOf was (l.getD i 0))) := by
  unfold diffTo diffAt
  rw [List.mem_flatMap]
  constructor
  · rintro ⟨i, hi, hk⟩
    split at hk
    · rename_i hs
      obtain ⟨m, hm, hk2⟩ := List.mem_flatMap.1 hk
      split at hk2
      · cases hk2
      · rename_i hmi
        exact ⟨i, List.mem_range.1 hi, hs, m, List.mem_range.1 hm, hmi, List.mem_singleton.1 hk2⟩
    · cases hk
  · rintro ⟨i, hi, hs, m, hm, hmi, rfl⟩
    refine ⟨i, List.mem_range.2 hi, ?_⟩
    rw [if_pos hs]
    refine List.mem_flatMap.2 ⟨m, List.mem_range.2 hm, ?_⟩
    rw [if_neg hmi]
    exact List.mem_singleton.2 rfl
theorem unlike_iff {x l : List Int} : unlike x l = true ↔ ∀ i k, i < l.length → k < l.length → i ≠ k → valP x (l.getD k 0) ≠ valP x (l.getD i 0) := by
  unfold unlike
  rw [List.all_eq_true]
  constructor
  · intro h i k hi hk hne
    rcases Nat.lt_or_gt_of_ne hne with hlt | hlt
    · have := h k (List.mem_range.2 hk)
      rw [List.all_eq_true] at this
      have := this i (List.mem_range.2 hlt)
      simp only [decide_eq_true_eq] at this
      exact fun e => this e.symm
    · have := h i (List.mem_range.2 hi)
      rw [List.all_eq_true] at this
      have := this k (List.mem_range.2 hlt)
      simpa only [decide_eq_true_eq] using this
  · intro h i hi
    rw [List.all_eq_true]
    intro k hk
    have hi' := List.mem_range.1 hi
    have hk' := List.mem_range.1 hk
    simp only [decide_eq_true_eq]
    exact h i k hi' (by omega) (by omega)
/-- the sets, normal and with a value each -/
def Has (was : Ds) (x : List Int) : Prop := x.length = was.length ∧ ∀ j, j < was.length → memL (was.getD j []) (x.getD j 0) = true
/-- a constraint that may be: what its kinds ask -/
structure PL.Lin (p : PL) (n : Nat) : Prop where
  good : p.Good n
  rel : p.kind = 1 ∨ p.kind = 4 → p.rel = 1 ∨ p.rel = 2 ∨ p.rel = 3
theorem has_dom {was : Ds} {x : List Int} (h : Has was x) {v : Int} (hv : 0 ≤ v ∧ v.toNat < was.length) : memL (domOf was v) (valP x v) = true := by
  rw [valP_in (by rw [h.1]; exact hv)]
  exact h.2 _ hv.2
theorem narrow_keeps {p : PL} {was : Ds} {x : List Int} (hg : p.Lin was.length) (hN : AllN was) (hx : Has was x) (hh : holdsP p x = true) : ∃ ks, narrowKs p was = some ks ∧ ∀ k ∈ ks, memL k.2 (valP x k.1) = true := by
  have hv := hg.good.vars
  have hlin : ∀ (rel c : Int) (coef : List Int), (rel = 1 ∨ rel = 2 ∨ rel = 3) → coef.length = p.vars.length → (∀ v ∈ p.vars, 0 ≤ v ∧ v.toNat < was.length) → holdsS rel c (sumX x (coef.zip p.vars)) = true →
      ∃ ks, linKs rel c (coef.zip p.vars) p.vars was = some ks ∧ ∀ k ∈ ks, memL k.2 (valP x k.1) = true := fun rel c coef hr hlen hvv hs => by
    obtain ⟨o, h1, h2, h3⟩ := once_keeps rel c hr was x (coef.zip p.vars) (fun j hj => by rw [norm_of_normal (hN j)]; exact hx.2 j hj) (fun q hq => (hvv _ (zip_vars q hq)).2) hs
    refine ⟨_, by unfold linKs; rw [h1]; rfl, fun k hk => ?_⟩
    obtain ⟨v, hv1, rfl⟩ := List.mem_map.1 hk
    have hvv1 := hvv v hv1
    show memL (domOf o v) (valP x v) = true
    rw [valP_in (by rw [hx.1]; exact hvv1)]
    exact h3 _ hvv1.2
  have hsum : ∀ coef, (∀ v ∈ p.vars, 0 ≤ v ∧ v.toNat < was.length) → sumV x (List.zip coef p.vars) = sumX x (coef.zip p.vars) := fun coef hvv => sumV_in x _ (fun q hq => by rw [hx.1]; exact hvv _ (zip_vars q hq))
  unfold holdsP at hh
  rcases hg.good.kind with k1 | k2 | k3 | k4
  · have hall : p.all = p.vars := by unfold PL.all allL; rw [if_pos k1]
    rw [hall] at hv
    rw [if_pos k1, hsum _ hv] at hh
    unfold narrowKs
    rw [if_pos k1]
    exact hlin _ _ _ (hg.rel (.inl k1)) (hg.good.len (.inl k1)) hv hh
  · have hall : p.all = [p.x, p.y, p.z] := by unfold PL.all allL; rw [if_neg (by omega), if_pos k2]
    rw [hall] at hv
    rw [if_neg (by omega), if_pos k2] at hh
    simp only [decide_eq_true_eq] at hh
    have mx := has_dom hx (hv p.x (by simp))
    have my := has_dom hx (hv p.y (by simp))
    have mz := has_dom hx (hv p.z (by simp))
    have nx : Normal (domOf was p.x) := hN _
    have ny : Normal (domOf was p.y) := hN _
    have nz : Normal (domOf was p.z) := hN _
    have ex := lo_hi nx mx
    have ey := lo_hi ny my
    have ez := lo_hi nz mz
    refine ⟨prodKs p.x p.y p.z was, by unfold narrowKs; rw [if_neg (by omega), if_pos k2], fun k hk => ?_⟩
    unfold prodKs at hk
    simp only [List.mem_cons, List.not_mem_nil, or_false] at hk
    rcases hk with rfl | rfl | rfl
    · rw [factors_mem nx, mx, Bool.true_and, hasW_iff]
      exact ⟨_, ey.1, ey.2, by rw [hh]; exact ez.1, by rw [hh]; exact ez.2⟩
    · rw [factors_mem ny, my, Bool.true_and, hasW_iff]
      exact ⟨_, ex.1, ex.2, by rw [Int.mul_comm, hh]; exact ez.1, by rw [Int.mul_comm, hh]; exact ez.2⟩
    · have := prod_mono ex ey
      rw [hh] at this
      simp only [prodR, memL, List.any_cons, List.any_nil, Bool.or_false, Bool.and_eq_true, decide_eq_true_eq]
      exact this
  · have hall : p.all = p.vs := by unfold PL.all allL; rw [if_neg (by omega), if_neg (by omega), if_pos k3]
    rw [hall] at hv
    rw [if_neg (by omega), if_neg (by omega), if_pos k3, unlike_iff] at hh
    refine ⟨diffTo p.vs was p.vs.length, by unfold narrowKs; rw [if_neg (by omega), if_neg (by omega), if_pos k3], fun k hk => ?_⟩
    obtain ⟨i, hi, hs, m, hm, hmi, rfl⟩ := mem_diffTo.1 hk
    have hvm : p.vs.getD m 0 ∈ p.vs := by rw [List.getD_eq_getElem?_getD, List.getElem?_eq_getElem hm]; exact List.getElem_mem hm
    have hvi : p.vs.getD i 0 ∈ p.vs := by rw [List.getD_eq_getElem?_getD, List.getElem?_eq_getElem hi]; exact List.getElem_mem hi
    have mm := has_dom hx (hv _ hvm)
    have mi := has_dom hx (hv _ hvi)
    obtain ⟨b1, b2⟩ := memL_bounds (hN _) mm
    have ni : Normal (domOf was (p.vs.getD i 0)) := hN _
    dsimp only
    rw [compl_mem b1 b2, one_alone ni hs]
    rw [one_alone ni hs] at mi
    unfold aloneL at *
    simp only [decide_eq_true_eq] at mi
    have hne := hh m i hm hi hmi
    simp only [Bool.not_eq_true', decide_eq_false_iff_not]
    intro e
    rw [e] at mi
    simp only [List.cons.injEq, Prod.mk.injEq, and_true, and_self] at mi
    exact hne mi.symm
  · have hall : p.all = p.x :: p.vars := by unfold PL.all allL; rw [if_neg (by omega), if_neg (by omega), if_neg (by omega), if_pos k4]
    rw [hall] at hv
    have hvx := hv p.x (by simp)
    have hvv : ∀ v ∈ p.vars, 0 ≤ v ∧ v.toNat < was.length := fun v h => hv v (List.mem_cons_of_mem _ h)
    rw [if_neg (by omega), if_neg (by omega), if_neg (by omega), hsum _ hvv] at hh
    have mx := has_dom hx hvx
    have hr := hg.rel (.inr k4)
    have hlen := hg.good.len (.inr k4)
    have hpk : Picks was x (p.coef.zip p.vars) := fun q hq => by
      have := hvv _ (zip_vars q hq)
      unfold domOf
      rw [norm_of_normal (hN _)]
      exact hx.2 _ this.2
    have hsure := says_sure p.rel p.c was x (p.coef.zip p.vars) hpk
    unfold holdsL at hsure
    have hsv := says_vals p.rel p.c was (p.coef.zip p.vars)
    have hmay : memL (mayL (saysL p.rel p.c was (p.coef.zip p.vars))) (valP x p.x) = true := by
      unfold mayL
      rcases hsv with e | e | e
      · rw [e, if_pos rfl]
        rw [hsure.1 e] at hh
        simp at hh
        simp [memL, hh]
      · rw [e]
        simp only [memL, show ¬ ((0 : Int) = 1) by decide, show ¬ ((0 : Int) = -1) by decide, if_false, List.any_cons, List.any_nil, Bool.or_false, Bool.and_eq_true, decide_eq_true_eq]
        simp only [Bool.or_eq_true, Bool.and_eq_true, decide_eq_true_eq] at hh
        omega
      · rw [e]
        rw [hsure.2 e] at hh
        simp at hh
        simp [memL, hh]
    unfold narrowKs reifKs
    rw [if_neg (by omega), if_neg (by omega), if_neg (by omega)]
    dsimp only
    split
    · rename_i ho
      simp only [Bool.and_eq_true, Bool.not_eq_true', inD] at ho
      have hx1 : valP x p.x ≠ 0 := fun e => by
        rw [e] at mx
        rw [mx] at ho
        simp at ho
      have hs : holdsS p.rel p.c (sumX x (p.coef.zip p.vars)) = true := by
        simp only [Bool.or_eq_true, Bool.and_eq_true, decide_eq_true_eq] at hh
        rcases hh with h | h
        · exact h.2
        · exact absurd h.1 hx1
      obtain ⟨ks, h1, h2⟩ := hlin _ _ _ hr hlen hvv hs
      refine ⟨_, by rw [h1]; rfl, fun k hk => ?_⟩
      rcases List.mem_cons.1 hk with rfl | hk
      · exact hmay
      · exact h2 k hk
    · split
      · rename_i _ ho
        simp only [Bool.and_eq_true, Bool.not_eq_true', inD] at ho
        have hx1 : valP x p.x ≠ 1 := fun e => by
          rw [e] at mx
          rw [mx] at ho
          simp at ho
        have hs : holdsS p.rel p.c (sumX x (p.coef.zip p.vars)) = false := by
          simp only [Bool.or_eq_true, Bool.and_eq_true, decide_eq_true_eq, Bool.not_eq_true'] at hh
          rcases hh with h | h
          · exact absurd h.1 hx1
          · exact h.2
        have hn := holds_not p.rel p.c hr x p.coef p.vars
        rw [hs] at hn
        obtain ⟨ks, h1, h2⟩ := hlin (notRel p.rel) (notC p.rel p.c) (notCoef p.rel p.coef) (by rcases hr with e | e | e <;> simp [notRel, e]) (by unfold notCoef; split <;> simp [hlen]) hvv hn
        refine ⟨_, by rw [h1]; rfl, fun k hk => ?_⟩
        rcases List.mem_cons.1 hk with rfl | hk
        · exact hmay
        · exact h2 k hk
      · refine ⟨_, rfl, fun k hk => ?_⟩
        rw [List.mem_singleton.1 hk]
        exact hmay
theorem narrow_keys {p : PL} {was : Ds} {ks : Ks} (hg : p.Good was.length) (h1 : narrowKs p was = some ks) {k : Int × List Rg} (hk : k ∈ ks) : k.1 ∈ p.all := by
  unfold narrowKs at h1
  rcases hg.kind with k1 | k2 | k3 | k4
  · rw [if_pos k1] at h1
    unfold linKs at h1
    obtain ⟨o, _, rfl⟩ := Option.map_eq_some_iff.1 h1
    obtain ⟨v, hv, rfl⟩ := List.mem_map.1 hk
    unfold PL.all allL; rw [if_pos k1]; exact hv
  · rw [if_neg (by omega), if_pos k2] at h1
    injection h1 with h1
    subst h1
    unfold prodKs at hk
    simp only [List.mem_cons, List.not_mem_nil, or_false] at hk
    unfold PL.all allL; rw [if_neg (by omega), if_pos k2]
    rcases hk with rfl | rfl | rfl <;> simp
  · rw [if_neg (by omega), if_neg (by omega), if_pos k3] at h1
    injection h1 with h1
    subst h1
    obtain ⟨i, hi, hs, m, hm, hmi, rfl⟩ := mem_diffTo.1 hk
    unfold PL.all allL; rw [if_neg (by omega), if_neg (by omega), if_pos k3]
    dsimp only
    rw [List.getD_eq_getElem?_getD, List.getElem?_eq_getElem hm]; exact List.getElem_mem hm
  · rw [if_neg (by omega), if_neg (by omega), if_neg (by omega)] at h1
    have hcase : ∀ o : Option Ks, o = some ks → (∀ ks', o = some ks' → ∀ k ∈ ks', k.1 = p.x ∨ k.1 ∈ p.vars) → k.1 = p.x ∨ k.1 ∈ p.vars := fun o ho hh => hh ks ho k hk
    have hl2 : ∀ (rel c : Int) (coef : List Int) (ks' : Ks), (linKs rel c (coef.zip p.vars) p.vars was).map (fun ks => (p.x, mayL (saysL p.rel p.c was (p.coef.zip p.vars))) :: ks) = some ks' → ∀ k ∈ ks', k.1 = p.x ∨ k.1 ∈ p.vars := fun rel c coef ks' h k hk => by
      obtain ⟨ks2, h3, rfl⟩ := Option.map_eq_some_iff.1 h
      unfold linKs at h3
      obtain ⟨o, _, rfl⟩ := Option.map_eq_some_iff.1 h3
      rcases List.mem_cons.1 hk with rfl | hk
      · exact .inl rfl
      · obtain ⟨v, hv, rfl⟩ := List.mem_map.1 hk
        exact .inr hv
    have := hcase _ h1 (fun ks' h k hk => by
      unfold reifKs at h
      dsimp only at h
      split at h
      · exact hl2 _ _ _ _ h k hk
      · split at h
        · exact hl2 _ _ _ _ h k hk
        · injection h with h
          subst h
          rw [List.mem_singleton.1 hk]; exact .inl rfl)
    unfold PL.all allL; rw [if_neg (by omega), if_neg (by omega), if_neg (by omega), if_pos k4]
    rcases this with e | e
    · rw [e]; simp
    · exact List.mem_cons_of_mem _ e
/-- NO VALUES FOR WHICH IT HOLDS ARE LOST -/
theorem onceP_keeps {p : PL} {ds : Ds} {x : List Int} (hg : p.Lin ds.length) (hx : Has (ds.map norm) x) (hh : holdsP p x = true) : ∃ r, onceP p ds = some r ∧ Has r x := by
  have hN := allN_norm ds
  have hl : (ds.map norm).length = ds.length := by simp
  have hg' : p.Lin (ds.map norm).length := by rw [hl]; exact hg
  unfold onceP
  generalize ds.map norm = was at *
  obtain ⟨ks, h1, h2⟩ := narrow_keeps hg' hN hx hh
  have hfin : Has (keepsL ks was) x := by
    refine ⟨by rw [keepsL_len]; exact hx.1, fun j hj => ?_⟩
    rw [keepsL_len] at hj
    rw [keepsL_mem _ j ks hN hj, hx.2 j hj, Bool.true_and, List.all_eq_true]
    intro k hk
    by_cases e : k.1.toNat = j
    · have := h2 k hk
      subst e
      by_cases hn : k.1 < 0 ∨ (x.length : Int) ≤ k.1
      · -- outside: its place is the first one, and its value 0: it does not come so
        exfalso
        have hmem : k.1 ∈ p.all := narrow_keys hg'.good h1 hk
        have hv := hg'.good.vars _ hmem
        have := hx.1
        omega
      · have e2 : valP x k.1 = x.getD k.1.toNat 0 := by unfold valP; rw [if_neg hn]
        rw [e2] at this
        simp only [decide_true, Bool.not_true, Bool.false_or]
        exact this
    · simp [e]
  have hnil : ∀ o : Ds, Has o x → o.length = was.length → anyNil p.all o = false := fun o ho hlo => by
    unfold anyNil
    rw [List.any_eq_false]
    intro v hv
    have := hg'.good.vars v hv
    have hm := ho.2 v.toNat (by omega)
    simp only [decide_eq_true_eq]
    exact mem_ne_nil hm
  rw [if_neg (by rw [hnil was hx rfl]; simp), h1]
  dsimp only
  rw [if_neg (by rw [hnil _ hfin (keepsL_len ks was)]; simp)]
  exact ⟨_, rfl, hfin⟩
end Go.Proofs.YtaekdgikgbdnnaaGreat
namespace Go.Proofs.YtaekdgikgbdnnaaGreat

/-- what onceP hands back -/
theorem onceP_parts {p : PL} {ds r : Ds} (h : onceP p ds = some r) : anyNil p.all (ds.map norm) = false ∧ ∃ ks, narrowKs p (ds.map norm) = some ks ∧ r = keepsL ks (ds.map norm) ∧ anyNil p.all r = false := by
  unfold onceP at h
  split at h
  · cases h
  · rename_i hn
    refine ⟨by simpa using hn, ?_⟩
    cases hk : narrowKs p (ds.map norm) with
    | none => rw [hk] at h; cases h
    | some ks =>
      rw [hk] at h
      dsimp only at h
      split at h
      · cases h
      · rename_i hn2
        injection h with h
        exact ⟨ks, rfl, h.symm, by rw [← h]; simpa using hn2⟩
theorem onceP_len {p : PL} {ds r : Ds} (h : onceP p ds = some r) : r.length = ds.length := by
  obtain ⟨_, ks, _, rfl, _⟩ := onceP_parts h
  rw [keepsL_len]; simp
theorem onceP_normal {p : PL} {ds r : Ds} (h : onceP p ds = some r) : AllN r := by
  obtain ⟨_, ks, _, rfl, _⟩ := onceP_parts h
  exact allN_keeps _ (allN_norm ds)
theorem onceP_sub {p : PL} {ds r : Ds} (h : onceP p ds = some r) (j : Nat) (x : Int) (hx : memL (r.getD j []) x = true) : memL ((ds.map norm).getD j []) x = true := by
  obtain ⟨_, ks, _, rfl, _⟩ := onceP_parts h
  exact keeps_sub ks (allN_norm ds) j x hx
theorem anyNil_false {l : List Int} {ds : Ds} : anyNil l ds = false ↔ ∀ v ∈ l, domOf ds v ≠ [] := by
  unfold anyNil
  rw [List.any_eq_false]
  simp
theorem onceP_some_of {p : PL} {ds : Ds} {ks : Ks} (h : anyNil p.all (ds.map norm) = false) (hk : narrowKs p (ds.map norm) = some ks) (he : anyNil p.all (keepsL ks (ds.map norm)) = false) : onceP p ds = some (keepsL ks (ds.map norm)) := by
  unfold onceP; rw [if_neg (by rw [h]; simp), hk]; dsimp only; rw [if_neg (by rw [he]; simp)]
/-- a constraint leaves alone what it does not name -/
theorem keeps_other {ks : Ks} {out : Ds} {j : Nat} (h : ∀ k ∈ ks, k.1.toNat ≠ j) : (keepsL ks out).getD j [] = out.getD j [] := by
  induction ks generalizing out with
  | nil => rfl
  | cons k ks ih =>
    show (keepsL ks (keepL out k)).getD j [] = _
    rw [ih (fun q hq => h q (List.mem_cons_of_mem _ hq))]
    unfold keepL
    rw [getD_set, if_neg (fun e => h k (by simp) e.1)]
theorem onceP_other {p : PL} {ds r : Ds} (hg : p.Good ds.length) (h : onceP p ds = some r) {j : Nat} (hj : ∀ v ∈ p.all, v.toNat ≠ j) : r.getD j [] = (ds.map norm).getD j [] := by
  obtain ⟨_, ks, hk, rfl, _⟩ := onceP_parts h
  exact keeps_other (fun k hk2 => hj _ (narrow_keys (by simpa using hg) hk hk2))

/-! ### single integers -/
def single (y : List Int) : Ds := y.map fun v => [(v, v)]
theorem single_len (y : List Int) : (single y).length = y.length := by simp [single]
theorem single_at {y : List Int} {j : Nat} (h : j < y.length) : (single y).getD j [] = [(y.getD j 0, y.getD j 0)] := by
  unfold single
  rw [List.getD_eq_getElem?_getD, List.getElem?_map, List.getElem?_eq_getElem h, List.getD_eq_getElem?_getD, List.getElem?_eq_getElem h]; rfl
theorem one_normal {v : Int} (h : -200 ≤ v ∧ v ≤ 200) : Normal [(v, v)] := ⟨h.1, Int.le_refl _, h.2, trivial⟩
theorem one_mem (v x : Int) : memL [(v, v)] x = decide (x = v) := by rw [Bool.eq_iff_iff]; simp [memL]; omega
theorem single_norm {y : List Int} (h : ∀ v ∈ y, -200 ≤ v ∧ v ≤ 200) : (single y).map norm = single y := by
  unfold single
  rw [List.map_map]
  apply List.map_congr_left
  intro v hv
  exact norm_of_normal (one_normal (h v hv))
theorem single_allN {y : List Int} (h : ∀ v ∈ y, -200 ≤ v ∧ v ≤ 200) : AllN (single y) := by rw [← single_norm h]; exact allN_norm _
theorem single_has {y : List Int} : Has (single y) y := ⟨(single_len y).symm, fun j hj => by rw [single_len] at hj; rw [single_at hj, one_mem]; simp⟩
theorem single_dom {y : List Int} {v : Int} (h : 0 ≤ v ∧ v.toNat < y.length) : domOf (single y) v = [(valP y v, valP y v)] := by
  unfold domOf; rw [single_at h.2, valP_in h]
theorem one_endsL (v : Int) (h : -200 ≤ v ∧ v ≤ 200) : loD [(v, v)] = v ∧ hiD [(v, v)] = v := by
  unfold loD hiD
  rw [norm_of_normal (one_normal h)]
  exact ⟨rfl, rfl⟩
theorem single_val {y : List Int} (h : ∀ v ∈ y, -200 ≤ v ∧ v ≤ 200) {v : Int} (hv : 0 ≤ v ∧ v.toNat < y.length) : -200 ≤ valP y v ∧ valP y v ≤ 200 := by
  rw [valP_in hv, List.getD_eq_getElem?_getD, List.getElem?_eq_getElem hv.2]
  exact h _ (List.getElem_mem hv.2)
theorem single_sums {y : List Int} (h : ∀ v ∈ y, -200 ≤ v ∧ v ≤ 200) : ∀ (ps : Ps), (∀ p ∈ ps, 0 ≤ p.2 ∧ p.2.toNat < y.length) → loS (single y) ps = sumV y ps ∧ hiS (single y) ps = sumV y ps ∧ allOk (single y) ps = true ∧
    ∀ p ∈ ps, loT p.1 (domOf (single y) p.2) = p.1 * valP y p.2 ∧ hiT p.1 (domOf (single y) p.2) = p.1 * valP y p.2
  | [], _ => ⟨rfl, rfl, rfl, fun _ hp => by cases hp⟩
  | p :: ps, hv => by
    obtain ⟨h1, h2, h3, h4⟩ := single_sums h ps (fun q hq => hv q (List.mem_cons_of_mem _ hq))
    have hp := hv p (by simp)
    have hd := single_dom (y := y) hp
    have hb := single_val h hp
    have he := one_endsL _ hb
    have t1 : loT p.1 (domOf (single y) p.2) = p.1 * valP y p.2 := by
      rw [hd]; unfold loT; change (if p.1 < 0 then p.1 * hiD _ else p.1 * loD _) = _; rw [he.1, he.2]; split <;> rfl
    have t2 : hiT p.1 (domOf (single y) p.2) = p.1 * valP y p.2 := by
      rw [hd]; unfold hiT; change (if p.1 < 0 then p.1 * loD _ else p.1 * hiD _) = _; rw [he.1, he.2]; split <;> rfl
    have t3 : okT (domOf (single y) p.2) = true := by rw [hd, okT_nil, norm_of_normal (one_normal hb)]; simp
    refine ⟨?_, ?_, ?_, fun q hq => ?_⟩
    · unfold loS sumV at *; rw [List.map_cons, List.map_cons, List.sum_cons, List.sum_cons, h1, t1]
    · unfold hiS sumV at *; rw [List.map_cons, List.map_cons, List.sum_cons, List.sum_cons, h2, t2]
    · unfold allOk at *; rw [List.all_cons, t3, h3]; rfl
    · rcases List.mem_cons.1 hq with rfl | hq
      · exact ⟨t1, t2⟩
      · exact h4 q hq
theorem stays_one {rel c k S v : Int} (hr : rel = 1 ∨ rel = 2 ∨ rel = 3) (h : staysP rel c k (S - k * v) (S - k * v) v = true) : holdsS rel c S = true := by
  unfold staysP at h
  unfold holdsS
  generalize k * v = q at *
  rcases hr with rfl | rfl | rfl <;> simp at h ⊢ <;> omega
theorem single_says {y : List Int} (h : ∀ v ∈ y, -200 ≤ v ∧ v ≤ 200) {rel c : Int} (hr : rel = 1 ∨ rel = 2 ∨ rel = 3) {ps : Ps} (hv : ∀ p ∈ ps, 0 ≤ p.2 ∧ p.2.toNat < y.length) :
    saysL rel c (single y) ps = if holdsS rel c (sumV y ps) = true then 1 else -1 := by
  obtain ⟨h1, h2, h3, _⟩ := single_sums h ps hv
  unfold saysL
  rw [if_pos h3, h1, h2]
  unfold yesL noL holdsS
  generalize sumV y ps = S
  rcases hr with rfl | rfl | rfl
  · by_cases e : S = c
    · subst e; simp
    · have e2 : (decide (c < S) || decide (S < c)) = true := by simp; omega
      simp [e2, e]
  · by_cases e : S = c
    · subst e; simp
    · have e2 : (decide (c < S) || decide (S < c)) = true := by simp; omega
      simp [e2, e]
  · by_cases e : S ≤ c
    · simp [e]
    · simp [e]; try omega
theorem single_once {y : List Int} (h : ∀ v ∈ y, -200 ≤ v ∧ v ≤ 200) {rel c : Int} (hr : rel = 1 ∨ rel = 2 ∨ rel = 3) {ps : Ps} (hv : ∀ p ∈ ps, 0 ≤ p.2 ∧ p.2.toNat < y.length) {o : Ds} (ho : onceL rel c (single y) ps = some o) :
    holdsS rel c (sumV y ps) = true := by
  obtain ⟨h1, h2, h3, h4⟩ := single_sums h ps hv
  have hsay := single_says h hr (c := c) hv
  cases ps with
  | nil =>
    unfold onceL at ho
    rw [if_pos h3] at ho
    split at ho
    · cases ho
    · rename_i hn
      rw [hsay] at hn
      cases hs : holdsS rel c (sumV y []) with
      | true => rfl
      | false => rw [hs] at hn; simp at hn
  | cons p ps =>
    obtain ⟨_, _, _, hne, _⟩ := once_spec rel c (single y) (single_allN h) (p :: ps) (fun q hq => by rw [single_len]; exact (hv q hq).2) o ho
    unfold onceL at ho
    rw [if_pos h3] at ho
    split at ho
    · cases ho
    · obtain ⟨g1, _⟩ := onceGo_spec rel c _ _ _ (p :: ps) _ o (fun q hq => by simp [single_len]; exact (hv q hq).2) ho
      obtain ⟨q, hq, hq2, e1, e2⟩ := g1 p (by simp)
      obtain ⟨v, hm⟩ := normal_some (narrow_normal rel c q.1 (domOf (single y) q.2) (loS (single y) (p :: ps) - loT q.1 (domOf (single y) q.2)) (hiS (single y) (p :: ps) - hiT q.1 (domOf (single y) q.2))) e2
      rw [narrow_mem, Bool.and_eq_true, single_dom (hv q hq)] at hm
      obtain ⟨m1, m2⟩ := hm
      rw [norm_of_normal (one_normal (single_val h (hv q hq))), one_mem, decide_eq_true_eq] at m1
      subst m1
      have t := h4 q hq
      rw [single_dom (hv q hq)] at t
      rw [t.1, t.2, h1, h2] at m2
      exact stays_one hr m2
/-- WHAT IT SAYS OF SINGLE INTEGERS -/
theorem onceP_single {p : PL} {y : List Int} (hg : p.Lin y.length) (h : ∀ v ∈ y, -200 ≤ v ∧ v ≤ 200) : onceP p (single y) = if holdsP p y = true then some (single y) else none := by
  have hsn := single_norm h
  have hg' : p.Lin (single y).length := by rw [single_len]; exact hg
  split
  · rename_i hh
    obtain ⟨r, hr, hx⟩ := onceP_keeps (ds := single y) hg' (by rw [hsn]; exact single_has) hh
    rw [hr]
    congr 1
    have hl := onceP_len hr
    refine ds_ext hl (onceP_normal hr) (single_allN h) (fun j hj x => ?_)
    rw [Bool.eq_iff_iff]
    constructor
    · intro hm; have := onceP_sub hr j x hm; rwa [hsn] at this
    · intro hm
      rw [hl, single_len] at hj
      rw [single_at hj, one_mem, decide_eq_true_eq] at hm
      subst hm
      exact hx.2 j (by rw [hl, single_len]; exact hj)
  · rename_i hh
    cases ho : onceP p (single y) with
    | none => rfl
    | some r =>
      exfalso
      apply hh
      obtain ⟨_, ks, hk, rfl, hne⟩ := onceP_parts ho
      rw [hsn] at hk hne
      have hN := single_allN h
      have hvy : ∀ v ∈ p.all, 0 ≤ v ∧ v.toNat < y.length := hg.good.vars
      -- each that is kept bears the value
      have hks : ∀ k ∈ ks, memL k.2 (valP y k.1) = true := fun k hkm => by
        have hmem := narrow_keys hg'.good hk hkm
        have hv := hvy _ hmem
        have h1 := anyNil_false.1 hne _ hmem
        obtain ⟨x, hx⟩ := normal_some (allN_keeps ks hN k.1.toNat) h1
        have hx' : memL ((keepsL ks (single y)).getD k.1.toNat []) x = true := hx
        rw [keepsL_mem x _ ks hN (by rw [single_len]; exact hv.2), Bool.and_eq_true, single_at hv.2, one_mem, decide_eq_true_eq, List.all_eq_true] at hx'
        have := hx'.2 k hkm
        simp only [decide_true, Bool.not_true, Bool.false_or] at this
        rw [valP_in hv, ← hx'.1]; exact this
      unfold narrowKs at hk
      unfold holdsP
      rcases hg.good.kind with k1 | k2 | k3 | k4
      · have hall : p.all = p.vars := by unfold PL.all allL; rw [if_pos k1]
        rw [hall] at hvy
        rw [if_pos k1] at hk ⊢
        unfold linKs at hk
        obtain ⟨o, ho2, _⟩ := Option.map_eq_some_iff.1 hk
        exact single_once h (hg.rel (.inl k1)) (fun q hq => hvy _ (zip_vars q hq)) ho2
      · have hall : p.all = [p.x, p.y, p.z] := by unfold PL.all allL; rw [if_neg (by omega), if_pos k2]
        rw [hall] at hvy
        rw [if_neg (by omega), if_pos k2] at hk ⊢
        injection hk with hk
        subst hk
        have := hks _ (show (p.x, _) ∈ prodKs p.x p.y p.z (single y) from by unfold prodKs; exact List.mem_cons_self ..)
        dsimp only at this
        rw [factors_mem (show Normal (domOf (single y) p.x) from hN _), Bool.and_eq_true, hasW_iff] at this
        obtain ⟨_, w, a, b, c, d⟩ := this
        rw [single_dom (hvy p.y (by simp))] at a b
        rw [single_dom (hvy p.z (by simp))] at c d
        have ey := one_endsL _ (single_val h (hvy p.y (by simp)))
        have ez := one_endsL _ (single_val h (hvy p.z (by simp)))
        rw [ey.1] at a
        rw [ey.2] at b
        rw [ez.1] at c
        rw [ez.2] at d
        have e1 : w = valP y p.y := by omega
        subst e1
        simp only [decide_eq_true_eq]; omega
      · have hall : p.all = p.vs := by unfold PL.all allL; rw [if_neg (by omega), if_neg (by omega), if_pos k3]
        rw [hall] at hvy
        rw [if_neg (by omega), if_neg (by omega), if_pos k3] at hk ⊢
        injection hk with hk
        subst hk
        rw [unlike_iff]
        intro i k hi hk2 hne2 he
        have hvi : p.vs.getD i 0 ∈ p.vs := by rw [List.getD_eq_getElem?_getD, List.getElem?_eq_getElem hi]; exact List.getElem_mem hi
        have hvk : p.vs.getD k 0 ∈ p.vs := by rw [List.getD_eq_getElem?_getD, List.getElem?_eq_getElem hk2]; exact List.getElem_mem hk2
        have bi := single_val h (hvy _ hvi)
        have bk := single_val h (hvy _ hvk)
        have := hks _ (mem_diffTo.2 ⟨i, hi, by rw [single_dom (hvy _ hvi), norm_of_normal (one_normal bi)]; simp [sizeL], k, hk2, fun e => hne2 e.symm, rfl⟩)
        dsimp only at this
        rw [compl_mem bk.1 bk.2, single_dom (hvy _ hvi), one_mem] at this
        rw [decide_eq_true he] at this
        cases this
      · have hall : p.all = p.x :: p.vars := by unfold PL.all allL; rw [if_neg (by omega), if_neg (by omega), if_neg (by omega), if_pos k4]
        rw [hall] at hvy
        rw [if_neg (by omega), if_neg (by omega), if_neg (by omega)] at hk ⊢
        have hvv : ∀ q ∈ p.coef.zip p.vars, 0 ≤ q.2 ∧ q.2.toNat < y.length := fun q hq => hvy _ (List.mem_cons_of_mem _ (zip_vars q hq))
        have hsay := single_says h (hg.rel (.inr k4)) (c := p.c) hvv
        have hmem : (p.x, mayL (saysL p.rel p.c (single y) (p.coef.zip p.vars))) ∈ ks := by
          unfold reifKs at hk
          dsimp only at hk
          split at hk
          · obtain ⟨_, _, rfl⟩ := Option.map_eq_some_iff.1 hk; exact List.mem_cons_self ..
          · split at hk
            · obtain ⟨_, _, rfl⟩ := Option.map_eq_some_iff.1 hk; exact List.mem_cons_self ..
            · injection hk with hk; subst hk; exact List.mem_cons_self ..
        have hm := hks _ hmem
        dsimp only at hm
        rw [hsay] at hm
        cases hs : holdsS p.rel p.c (sumV y (p.coef.zip p.vars)) with
        | true =>
          rw [hs] at hm
          simp [mayL, memL] at hm
          simp; omega
        | false =>
          rw [hs] at hm
          simp [mayL, memL] at hm
          simp; omega
end Go.Proofs.YtaekdgikgbdnnaaGreat
