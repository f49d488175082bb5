/-
  label's iterator over the answers of a problem, walked: its contract.
  label's iterator over the answers of a problem, walked whole.
-/
import Derived.Test.YtaekdgikgbdnnaaGreatKsol1
import Derived.Test.YtaekdgikgbdnnaaGreatKsol2
import Derived.Test.YtaekdgikgbdnnaaGreatKsol3
import Derived.Test.YtaekdgikgbdnnaaGreatKdom3
import Derived.Deep.LoopGhost
import Derived.Deep.CutBlock
import Derived.OwnWalkIn
import Derived.BigQuiet
import Derived.Deep.RegionHeld3
namespace Go.Proofs.YtaekdgikgbdnnaaGreat
open Go.RowKit

theorem Tryz.infoRgss : (Tryz.prog.info? 22).map (fun i => (i.zero, i.size, i.bytes)) = some (some (.slice none 0 0), 1, 24) := by kernel_rfl
theorem mk_ints (n : Nat) (hn : n ≤ 4096) (W : World) : (Instr.makeSlice 26 (.int .i64 n) (.int .i64 n)).run Tryz.prog W = .ok (.slice (some ⟨W.heap.size, 0, none⟩) n n) (W.alloc (.cells (madeCells #[.int .i64 0] n) 3)) := by
  obtain ⟨i0, hi, hz0, hz1, hz2⟩ := info_parts Tryz.infoIntR
  have h := run_make (P := Tryz.prog) W 26 3 i0 (.int .i64 0) Tryz.underlying26 hi hz0 .i64 .i64 n n (by omega) (Int.le_refl _) (by rw [hz2]; omega) (by omega)
  rw [h, hz1]
  simp [Value.cells]
/-- the search's own block -/
structure Srch (W : World) (sb : Nat) (vps vv : Value) (sel ord br : Int) (vw : Value) (k : Int) (ov : Bool) : Prop where
  c0 : W.cell? ⟨sb, 0, none⟩ = some vps
  c1 : W.cell? ⟨sb, 1, none⟩ = some vv
  c2 : W.cell? ⟨sb, 2, none⟩ = some (.int .i64 sel)
  c3 : W.cell? ⟨sb, 3, none⟩ = some (.int .i64 ord)
  c4 : W.cell? ⟨sb, 4, none⟩ = some (.int .i64 br)
  c5 : W.cell? ⟨sb, 5, none⟩ = some vw
  c6 : W.cell? ⟨sb, 6, none⟩ = some (.int .i64 k)
  c7 : W.cell? ⟨sb, 7, none⟩ = some (.bool ov)
  f6 : W.frozen? ⟨sb, 6, none⟩ = false
  f7 : W.frozen? ⟨sb, 7, none⟩ = false
theorem Srch.on {W W' : World} {sb : Nat} {vps vv vw : Value} {sel ord br k : Int} {ov : Bool} (h : Srch W sb vps vv sel ord br vw k ov) (hb : W'.heap[sb]? = W.heap[sb]?) : Srch W' sb vps vv sel ord br vw k ov := by
  have c : ∀ (o : Nat) v, W.cell? ⟨sb, o, none⟩ = some v → W'.cell? ⟨sb, o, none⟩ = some v := fun o v h => (World.cell?_of_block (a := ⟨sb, o, none⟩) hb).trans h
  have f : ∀ (o : Nat), W.frozen? ⟨sb, o, none⟩ = false → W'.frozen? ⟨sb, o, none⟩ = false := fun o h => (World.frozen?_of_block (a := ⟨sb, o, none⟩) hb).trans h
  exact ⟨c _ _ h.c0, c _ _ h.c1, c _ _ h.c2, c _ _ h.c3, c _ _ h.c4, c _ _ h.c5, c _ _ h.c6, c _ _ h.c7, f _ h.f6, f _ h.f7⟩
theorem Srch.lt {W : World} {sb : Nat} {vps vv vw : Value} {sel ord br k : Int} {ov : Bool} (h : Srch W sb vps vv sel ord br vw k ov) : sb < W.heap.size := World.block_lt_of_cell? W ⟨sb, 0, none⟩ h.c0
theorem cell_set_ne {W : World} {b o o' : Nat} {u v : Value} (h : W.cell? ⟨b, o', none⟩ = some v) (hne : o ≠ o') : (W.setCell ⟨b, o, none⟩ u).cell? ⟨b, o', none⟩ = some v := by
  rw [World.cell?_setCell_other _ _ _ _ (fun h => by cases h; exact hne rfl)]; exact h
theorem Srch.left {W : World} {sb : Nat} {vps vv vw : Value} {sel ord br k : Int} {ov : Bool} (h : Srch W sb vps vv sel ord br vw k ov) (z : Int) : Srch (W.setCell ⟨sb, 6, none⟩ (.int .i64 z)) sb vps vv sel ord br vw z ov :=
  ⟨cell_set_ne h.c0 (by decide), cell_set_ne h.c1 (by decide), cell_set_ne h.c2 (by decide), cell_set_ne h.c3 (by decide), cell_set_ne h.c4 (by decide), cell_set_ne h.c5 (by decide), World.cell?_setCell_same _ _ _ h.c6, cell_set_ne h.c7 (by decide), by rw [World.frozen?_setCell]; exact h.f6, by rw [World.frozen?_setCell]; exact h.f7⟩
theorem Srch.over {W : World} {sb : Nat} {vps vv vw : Value} {sel ord br k : Int} {ov : Bool} (h : Srch W sb vps vv sel ord br vw k ov) (z : Bool) : Srch (W.setCell ⟨sb, 7, none⟩ (.bool z)) sb vps vv sel ord br vw k z :=
  ⟨cell_set_ne h.c0 (by decide), cell_set_ne h.c1 (by decide), cell_set_ne h.c2 (by decide), cell_set_ne h.c3 (by decide), cell_set_ne h.c4 (by decide), cell_set_ne h.c5 (by decide), cell_set_ne h.c6 (by decide), World.cell?_setCell_same _ _ _ h.c7, by rw [World.frozen?_setCell]; exact h.f6, by rw [World.frozen?_setCell]; exact h.f7⟩
theorem setCell_blk (W : World) (a : Addr) (u : Value) : (W.setCell a u).heap.size = W.heap.size ∧ ∀ b, b ≠ a.block → (W.setCell a u).heap[b]? = W.heap[b]? :=
  ⟨by simp [World.setCell], fun b hb => Below.heap_setCell _ _ _ _ hb⟩

/-- the answer's places, k of them told -/
def fillL (f : Int → Int) (vars : List Int) (k : Nat) : List Value := (List.range vars.length).map (fun j => Value.int .i64 (if j < k then f (vars.getD j 0) else 0))
theorem fill_zero (f : Int → Int) (vars : List Int) : fillL f vars 0 = List.replicate vars.length (.int .i64 0) := by
  apply List.ext_getElem (by simp [fillL])
  intro j h1 h2
  simp [fillL]
theorem fill_step (f : Int → Int) (vars : List Int) (k : Nat) (hk : k < vars.length) : (fillL f vars k).set k (.int .i64 (f vars[k])) = fillL f vars (k + 1) := by
  apply List.ext_getElem (by simp [fillL])
  intro j h1 h2
  rw [List.getElem_set]
  by_cases e : k = j
  · subst e
    simp [fillL, hk]
  · rw [if_neg e]
    simp only [fillL, List.getElem_map, List.getElem_range]
    congr 1
    by_cases h : j < k
    · rw [if_pos h, if_pos (by omega)]
    · rw [if_neg h, if_neg (by omega)]
theorem fill_all (f : Int → Int) (vars : List Int) : fillL f vars vars.length = (vars.map f).map (Value.int .i64) := by
  apply List.ext_getElem (by simp [fillL])
  intro j h1 h2
  simp [fillL] at h1
  simp [fillL, h1]
theorem FixIn.set {now : Ds} {ps : List PL} (h : FixIn now ps) (hn : AllN now) {d : List Rg} (hd : Normal d) (v : Nat) : FixIn (now.set v d) ps := by
  have hn' : AllN (now.set v d) := fun j => by
    rw [getD_set]
    split
    · exact hd
    · exact hn j
  exact ⟨fun p hp => (h.fine p hp).now (by rw [List.length_set]) hn', h.ok, by rw [List.length_set]; exact h.n, allN_short' hn', h.P⟩

/-- what is known at the search's start -/
structure AnsIn (w0 W : World) (bd bs sb : Nat) (vd vps vv vw : Value) (D0 : Ds) (ps : List PL) (vars ws : List Int) (sel ord br : Int) (k0 : Nat) (M0 : Nat → Prop) : Prop where
  p : PsAt w0 vps ps
  v : IsAt w0 vv vars
  w : IsAt w0 vw ws
  b : Below w0.heap.size w0 W
  s : Srch W sb vps vv sel ord br vw k0 false
  bx : W.cell? ⟨bs, 0, none⟩ = some (.pointer (some ⟨sb, 0, none⟩))
  bxd : W.cell? ⟨bd, 0, none⟩ = some vd
  d : DsQ (fun b => ¬ M0 b ∧ b ≠ sb) W vd D0
  sl : w0.heap.size ≤ sb
  ns : bs ≠ sb
  ms : ¬ M0 sb
  mb : ¬ M0 bs
  ml : ∀ b, M0 b → w0.heap.size ≤ b
  fin : FixIn D0 ps
  vin : ∀ v ∈ vars, 0 ≤ v ∧ v.toNat < D0.length
  vl : vars.length ≤ 64
  k : k0 ≤ 10000
  sel : sel = 0 ∨ sel = 1 ∨ sel = 2 ∨ sel = 3 ∨ sel = 4
  ord : ord = 0 ∨ ord = 1
  br : br = 0 ∨ br = 1
/-- an answer's value -/
def GotI (n0 : Nat) (x : Value × List Int) (W : World) : Prop := IsAt W x.1 x.2 ∧ ∀ b, x.1.ownBlock = some b → n0 ≤ b
def ownI (x : Value × List Int) (b : Nat) : Prop := x.1.ownBlock = some b
def AnsDone (ps : List PL) (vars : List Int) (o : SOpt) (k0 : Nat) (D0 : Ds) (sb : Nat) (vps vv vw : Value) (xs : List (Value × List Int)) (W : World) : Prop :=
  ∃ (k : Int) (n : Nat) (ov : Bool), Srch W sb vps vv o.sel o.ord o.br vw k ov ∧ (ov = false → k = n) ∧ ∀ m, findR ps vars o (xs.length + (m + 1)) k0 [D0] = (xs.map Prod.snd, n, ov)
def AnsStop (ps : List PL) (vars : List Int) (o : SOpt) (k0 : Nat) (D0 : Ds) (sb : Nat) (vps vv vw : Value) (xs : List (Value × List Int)) (W : World) : Prop :=
  ∃ n : Nat, Srch W sb vps vv o.sel o.ord o.br vw n false ∧ findR ps vars o xs.length k0 [D0] = (xs.map Prod.snd, n, false)
/-- the state at the loop's head -/
structure AnsW (J : List (Value × List Int) → (Nat → Prop) → World → Prop) (n0 : Nat) (W0 : World) (bs sb : Nat) (vps vv vw : Value) (D0 : Ds) (ps : List PL) (o : SOpt)
    (wr : World) (pre : List (Value × List Int)) (M : Nat → Prop) (g cap : Nat) (st : List Ds) (us : List Value) (k : Nat) : Prop where
  j : J pre M wr
  ml : ∀ b, M b → n0 ≤ b
  nl : n0 ≤ W0.heap.size
  b : Below n0 W0 wr
  s : Srch wr sb vps vv o.sel o.ord o.br vw k false
  bx : wr.cell? ⟨bs, 0, none⟩ = some (.pointer (some ⟨sb, 0, none⟩))
  ms : ¬ M sb
  mb : ¬ M bs
  ns : bs ≠ sb
  sl : n0 ≤ sb
  gb : g ≠ bs
  stk : StAt (fun b => ¬ M b ∧ b ≠ sb) wr n0 g cap st us
  fin : ∀ D ∈ st, FixIn D ps ∧ D.length = D0.length
variable {J : List (Value × List Int) → (Nat → Prop) → World → Prop} {w0 W0 wr : World} {n0 bs sb g cap k : Nat} {vps vv vw : Value} {D0 D : Ds} {ps : List PL} {vars : List Int} {o : SOpt} {k0 : Nat}
  {pre : List (Value × List Int)} {M : Nat → Prop} {st : List Ds} {us : List Value}
theorem AnsW.below (h : AnsW J n0 W0 bs sb vps vv vw D0 ps o wr pre M g cap st us k) (hJ : Rests J) (hl : Lies J) {W' : World} (hb : Below wr.heap.size wr W') : AnsW J n0 W0 bs sb vps vv vw D0 ps o W' pre M g cap st us k :=
  { h with
    j := hJ _ _ _ _ h.j hb.size (fun b hm => hb.block b (hl _ _ _ h.j b hm))
    b := h.b.trans (hb.mono (Nat.le_trans h.nl h.b.size))
    s := h.s.on (hb.block _ h.s.lt)
    bx := (hb.cell (p := ⟨bs, 0, none⟩) (World.block_lt_of_cell? wr _ h.bx)).trans h.bx
    stk := h.stk.below hb }
theorem AnsW.dec (h : AnsW J n0 W0 bs sb vps vv vw D0 ps o wr pre M g cap (D :: st) us (k + 1)) (hJ : Rests J) : AnsW J n0 W0 bs sb vps vv vw D0 ps o (wr.setCell ⟨sb, 6, none⟩ (.int .i64 k)) pre M g cap st (us.take st.length) k := by
  obtain ⟨hs, hb⟩ := setCell_blk wr ⟨sb, 6, none⟩ (.int .i64 k)
  exact { h with
    j := hJ _ _ _ _ h.j (Nat.le_of_eq hs.symm) (fun b hm => hb b (fun e => h.ms (by dsimp only at e; rw [← e]; exact hm)))
    b := h.b.setCell (p := ⟨sb, 6, none⟩) h.sl _
    s := h.s.left _
    bx := (World.cell?_of_block (a := ⟨bs, 0, none⟩) (hb bs h.ns)).trans h.bx
    stk := h.stk.pop.on (Nat.le_of_eq hs.symm) (fun b _ hq => hb b hq.2)
    fin := fun E hE => h.fin E (List.mem_cons_of_mem _ hE) }
theorem AnsW.glt (h : AnsW J n0 W0 bs sb vps vv vw D0 ps o wr pre M g cap st us k) : g < wr.heap.size := h.stk.lt.2
/-- what lies in newer memory is none of the search's -/
theorem AnsW.new (h : AnsW J n0 W0 bs sb vps vv vw D0 ps o wr pre M g cap st us k) (hl : Lies J) : ∀ b, wr.heap.size ≤ b → (¬ M b ∧ b ≠ sb) ∧ b ≠ g := fun b hb =>
  ⟨⟨fun hm => by have := hl _ _ _ h.j b hm; omega, by have := h.s.lt; omega⟩, by have := h.glt; omega⟩
/-- two more lists -/
theorem AnsW.push (h : AnsW J n0 W0 bs sb vps vv vw D0 ps o wr pre M g cap st us k) (hJ : Rests J) (hl : Lies J) {W W' : World} {g' cap' : Nat} {a b : Ds} {ua ub : Value} (hb : Below wr.heap.size wr W)
    (ha : DsQ (fun b => (¬ M b ∧ b ≠ sb) ∧ b ≠ g) W ua a) (hub : DsQ (fun b => (¬ M b ∧ b ≠ sb) ∧ b ≠ g) W ub b) (fa : FixIn a ps ∧ a.length = D0.length) (fb : FixIn b ps ∧ b.length = D0.length)
    (ho : W'.ownsRow n0 22 1 (.slice (some ⟨g', 0, none⟩) (st.length + 2) cap') (st.length + 2) (us ++ [ub, ua])) (hgr : W.grownBy W' (some g)) (hg : g' = g ∨ W.heap.size ≤ g') (hlow : n0 ≤ g) :
    AnsW J n0 W0 bs sb vps vv vw D0 ps o W' pre M g' cap' (a :: b :: st) (us ++ [ub, ua]) k := by
  have h1 := h.below hJ hl hb
  have hk : ∀ k, k < W.heap.size → k ≠ g → W'.heap[k]? = W.heap[k]? := fun k hk hne => hgr.block k hk (fun e => hne (Option.some.inj e))
  have hMg : ∀ b, M b → b ≠ g := fun b hm e => h1.stk.good.1 (e ▸ hm)
  exact { h1 with
    j := hJ _ _ _ _ h1.j hgr.size (fun b hm => hk b (hl _ _ _ h1.j b hm) (hMg b hm))
    b := h1.b.grown hgr (Nat.le_trans h1.nl h1.b.size) (fun x e => by cases e; exact hlow)
    s := h1.s.on (hk sb h1.s.lt (fun e => h1.stk.good.2 e.symm))
    bx := (World.cell?_of_block (a := ⟨bs, 0, none⟩) (hk bs (World.block_lt_of_cell? W _ h1.bx) (fun e => h.gb e.symm))).trans h1.bx
    gb := by
      rcases hg with e | e
      · rw [e]; exact h.gb
      · have := World.block_lt_of_cell? W _ h1.bx
        dsimp only at this
        omega
    stk := h1.stk.push ha hub ho hgr.size hk (hg.imp id (fun e => ⟨e, fun hm => by have := hl _ _ _ h1.j _ hm; omega, by have := h1.s.lt; omega⟩))
    fin := fun E hE => by
      rcases List.mem_cons.1 hE with rfl | hE
      · exact fa
      · rcases List.mem_cons.1 hE with rfl | hE
        · exact fb
        · exact h.fin E hE }
/-- behind a round -/
theorem AnsW.round {J2 : List (Value × List Int) → (Nat → Prop) → World → Prop} (h : AnsW J n0 W0 bs sb vps vv vw D0 ps o wr pre M g cap st us k) {W' : World} {x : Value × List Int} {pre' : List (Value × List Int)} {M' : Nat → Prop} (hx : ∀ b, ownI x b → n0 ≤ b ∧ b ≠ sb ∧ b ≠ bs)
    (hM : ∀ b, M' b → (M b ∨ ownI x b) ∨ wr.heap.size ≤ b) (hA : Agr (fun b => M b ∨ ownI x b) wr W') (hj : J2 pre' M' W')
    (hst : StAt (fun b => (¬ M b ∧ b ≠ sb) ∧ ¬ ownI x b) wr n0 g cap st us) : AnsW J2 n0 W0 bs sb vps vv vw D0 ps o W' pre' M' g cap st us k := by
  have hsz := Nat.le_trans h.nl h.b.size
  have hsb := h.s.lt
  have hbs := World.block_lt_of_cell? wr _ h.bx
  dsimp only at hbs
  have hnot : ∀ b, b < wr.heap.size → ¬ M b → ¬ ownI x b → ¬ M' b := fun b hb h1 h2 hm => by
    rcases hM b hm with (e | e) | e
    · exact h1 e
    · exact h2 e
    · omega
  have hms : ¬ ownI x sb := fun e => (hx _ e).2.1 rfl
  have hmb : ¬ ownI x bs := fun e => (hx _ e).2.2 rfl
  exact { h with
    j := hj
    ml := fun b hm => by
      rcases hM b hm with (e | e) | e
      · exact h.ml b e
      · exact (hx b e).1
      · omega
    b := h.b.trans (hA.below hsz (fun b e => by
      rcases e with e | e
      · exact h.ml b e
      · exact (hx b e).1))
    s := h.s.on (hA.same _ hsb (fun e => e.elim h.ms hms))
    bx := (World.cell?_of_block (a := ⟨bs, 0, none⟩) (hA.same _ hbs (fun e => e.elim h.mb hmb))).trans h.bx
    ms := hnot _ hsb h.ms hms
    mb := hnot _ hbs h.mb hmb
    stk := ((hst.weaken (Q' := fun b => (¬ M' b ∧ b ≠ sb) ∧ ((¬ M b ∧ b ≠ sb) ∧ ¬ ownI x b)) (fun b hb hq => ⟨⟨hnot b hb hq.1.1 hq.2, hq.1.2⟩, hq⟩)).on hA.low.size (fun b hb hq => hA.same b hb (fun e => e.elim hq.2.1.1 hq.2.2))).weaken (fun b _ hq => hq.1) }
theorem AnsW.start {W : World} {bd : Nat} {vd : Value} {ws : List Int} (h : AnsIn w0 W bd bs sb vd vps vv vw D0 ps vars ws o.sel o.ord o.br k0 M) (hJ : Rests J) (hl : Lies J) (hj : J [] M W) :
    AnsW J w0.heap.size W bs sb vps vv vw D0 ps o (W.alloc (.cells #[vd] 22)) [] M W.heap.size 1 [D0] [vd] k0 := by
  have hb : Below W.heap.size W (W.alloc (.cells #[vd] 22)) := (Below.refl _ _).alloc (Nat.le_refl _) _
  have hbs := World.block_lt_of_cell? W _ h.bx
  dsimp only at hbs
  exact {
    j := hJ _ _ _ _ hj hb.size (fun b hm => hb.block b (hl _ _ _ hj b hm))
    ml := h.ml
    nl := h.b.size
    b := hb.mono h.b.size
    s := h.s.on (hb.block _ h.s.lt)
    bx := (hb.cell (p := ⟨bs, 0, none⟩) hbs).trans h.bx
    ms := h.ms
    mb := h.mb
    ns := h.ns
    sl := h.sl
    gb := by omega
    stk := StAt.one h.d ⟨fun hm => by have := hl _ _ _ hj _ hm; omega, by have := h.s.lt; omega⟩ h.b.size
    fin := fun E hE => by rw [List.mem_singleton.1 hE]; exact ⟨h.fin, rfl⟩ }
theorem StAt.room {Q : Nat → Prop} {W : World} {B g cap : Nat} {st : List Ds} {us : List Value} (h : StAt Q W B g cap st us) : st.length ≤ cap ∧ cap ≤ maxLen := by
  rcases h.own.2 with ⟨e, _⟩ | ⟨g', cap', cur, he, _, _, a3, a4, _⟩
  · cases e
  · simp only [Value.slice.injEq, Option.some.injEq, Addr.mk.injEq, and_true, true_and] at he
    obtain ⟨_, rfl⟩ := he
    exact ⟨a3, a4⟩
theorem AnsW.jset (h : AnsW J n0 W0 bs sb vps vv vw D0 ps o wr pre M g cap st us k) (hJ : Rests J) {W' : World} (hs : wr.heap.size ≤ W'.heap.size) (hb : ∀ b, b ≠ sb → W'.heap[b]? = wr.heap[b]?) : J pre M W' :=
  hJ _ _ _ _ h.j hs (fun b hm => hb b (fun e => h.ms (e ▸ hm)))
theorem theFix_some {ps : List PL} {D : Ds} (h : FixIn D ps) : FixOf ps D (theFix ps D) := by
  obtain ⟨R, hR⟩ := fixOf_exists (ps := ps) (D := D) (fun p hp => (h.fine p hp).good)
  rw [theFix_eq hR]; exact hR
end Go.Proofs.YtaekdgikgbdnnaaGreat
namespace Go.Proofs.YtaekdgikgbdnnaaGreat
open Go.RowKit

set_option maxRecDepth 1000000 in
set_option maxHeartbeats 6400000 in
theorem answers_seq (w0 W : World) (bd bs sb : Nat) (vd vps vv vw : Value) (D0 : Ds) (ps : List PL) (vars : List Int) (o : SOpt) (k0 : Nat) (M0 : Nat → Prop)
    (h : AnsIn w0 W bd bs sb vd vps vv vw D0 ps vars o.ws o.sel o.ord o.br k0 M0) (n : Nat) :
    SeqM Fence.wide n Tryz.prog 42 #[.pointer (some ⟨bd, 0, none⟩), .pointer (some ⟨bs, 0, none⟩)] (fun x => #[x.1]) (GotI w0.heap.size) ownI w0.heap.size (AnsDone ps vars o k0 D0 sb vps vv vw) (AnsStop ps vars o k0 D0 sb vps vv vw) M0 W := by
  intro l J Jx hJ hJx hl hlx hY hj0
  refine callsIn_wide.2 ?_
  show Calls Tryz.prog 42 #[.func (.yield l) #[] #[], .pointer (some ⟨bd, 0, none⟩), .pointer (some ⟨bs, 0, none⟩)] W _
  obtain ⟨ap, cp, rfl, _⟩ := h.p.shape
  obtain ⟨av, cv, rfl, _⟩ := h.v.shape'
  obtain ⟨aw, cw, rfl, _⟩ := h.w.shape'
  obtain ⟨ad, cd, rfl, _⟩ := h.d.at.shape
  have b0 := h.bxd
  have H0 := Lib.hid (AnsW.start h hJ hl hj0)
  have HI := Lib.hid h
  have HK := h.k
  have HJ := Lib.hid hJ
  have HJX := Lib.hid hJx
  have HL := Lib.hid hl
  have HY := Lib.hid hY
  clear h hJ hJx hl hlx hY hj0
  go_enter Tryz.func42, Tryz.ntmps42
  go_wp2
  go_loopg [4] k0 (fun n s wr => ∃ (pre : List (Value × List Int)) (M : Nat → Prop) (g cap : Nat) (us : List Value) (st : List Ds), s = .slice (some ⟨g, 0, none⟩) st.length cap ∧ Hid (AnsW J w0.heap.size W bs sb (.slice ap ps.length cp) (.slice av vars.length cv) (.slice aw o.ws.length cw) D0 ps o wr pre M g cap st us n) ∧ Hid (Stands ps vars o k0 D0 (pre.map Prod.snd) n st) ∧ Hid (st.length + n ≤ k0 + 1))
  case atStart => exact ⟨[], M0, W.heap.size, 1, _, [D0], rfl, H0, Lib.hid (Stands.start ps vars o k0 D0), Lib.hid (by show 1 + k0 ≤ k0 + 1; omega)⟩
  case round =>
    clear H0 b0
    obtain ⟨pre, M, g, cap, us, st, rfl, HA, HS, HN⟩ := hrel
    have hns := HA.out.ns
    have x0 := HA.out.bx
    have f6 := HA.out.s.f6
    have f7 := HA.out.s.f7
    have hcap := HA.out.stk.room
    have hlen := HN.out
    have hlow := HA.out.stk.lt.1
    rcases st with _ | ⟨D, st⟩
    · have HD : Hid (AnsDone ps vars o k0 D0 sb (.slice ap ps.length cp) (.slice av vars.length cv) (.slice aw o.ws.length cw) pre wr) := ⟨gk, gk, false, HA.out.s, fun _ => rfl, fun m => by have := Stands.done HS.out m; rwa [List.length_map] at this⟩
      have HJ1 := Lib.hid HA.out.j
      have HB1 := Lib.hid HA.out.b
      clear HA HS HN x0 f6 f7 hcap hlen hns hlow
      go_wp2
      go_end0
      exact ⟨⟨_, rfl⟩, HB1.out, M, .inl ⟨pre, HD.out, HJ1.out⟩⟩
    · obtain ⟨ao, c, htop, hdq⟩ := HA.out.stk.top
      have HDQ := Lib.hid hdq
      clear hdq
      rw [List.length_cons] at hcap hlen
      have hl1 : st.length + 1 ≤ 20002 := by omega
      have hcl : (st.length : Int) + 1 ≤ cap := by omega
      have y0 : ∀ z, (wr.setCell ⟨sb, 6, none⟩ (.int .i64 z)).cell? ⟨bs, 0, none⟩ = some (.pointer (some ⟨sb, 0, none⟩)) := fun z => (World.cell?_of_block (a := ⟨bs, 0, none⟩) ((setCell_blk wr ⟨sb, 6, none⟩ _).2 bs hns)).trans x0
      have y6 : ∀ z, (wr.setCell ⟨sb, 6, none⟩ (.int .i64 z)).cell? ⟨sb, 6, none⟩ = some (.int .i64 z) := fun z => (HA.out.s.left z).c6
      have y7 : ∀ z, (wr.setCell ⟨sb, 6, none⟩ (.int .i64 z)).cell? ⟨sb, 7, none⟩ = some (.bool false) := fun z => (HA.out.s.left z).c7
      have g7 : ∀ z, (wr.setCell ⟨sb, 6, none⟩ (.int .i64 z)).frozen? ⟨sb, 7, none⟩ = false := fun z => (HA.out.s.left z).f7
      rcases gk with _ | k
      · have x6 : wr.cell? ⟨sb, 6, none⟩ = some (.int .i64 0) := HA.out.s.c6
        have HD : Hid (AnsDone ps vars o k0 D0 sb (.slice ap ps.length cp) (.slice av vars.length cv) (.slice aw o.ws.length cw) pre ((wr.setCell ⟨sb, 6, none⟩ (.int .i64 (-1))).setCell ⟨sb, 7, none⟩ (.bool true))) := ⟨-1, 0, true, (HA.out.s.left _).over _, fun h => (by cases h), fun m => by have := Stands.over HS.out m; rwa [List.length_map] at this⟩
        have hbk : ∀ b, b ≠ sb → ((wr.setCell ⟨sb, 6, none⟩ (.int .i64 (-1))).setCell ⟨sb, 7, none⟩ (.bool true)).heap[b]? = wr.heap[b]? := fun b hb => ((setCell_blk _ ⟨sb, 7, none⟩ _).2 b hb).trans ((setCell_blk wr ⟨sb, 6, none⟩ _).2 b hb)
        have HJ1 : Hid (J pre M ((wr.setCell ⟨sb, 6, none⟩ (.int .i64 (-1))).setCell ⟨sb, 7, none⟩ (.bool true))) := HA.out.jset HJ.out (by rw [(setCell_blk _ _ _).1, (setCell_blk _ _ _).1]; exact Nat.le_refl _) hbk
        have HB1 : Hid (Below w0.heap.size W ((wr.setCell ⟨sb, 6, none⟩ (.int .i64 (-1))).setCell ⟨sb, 7, none⟩ (.bool true))) := (HA.out.b.setCell (p := ⟨sb, 6, none⟩) HA.out.sl _).setCell (p := ⟨sb, 7, none⟩) HA.out.sl _
        clear HA HS HN hbk hlow hlen HDQ
        go_wp2
        refine bodyPost_ret (results_none rfl _ _ _) rfl ?_
        exact ⟨⟨_, rfl⟩, HB1.out, M, .inl ⟨pre, HD.out, HJ1.out⟩⟩
      · have x6 : wr.cell? ⟨sb, 6, none⟩ = some (.int .i64 ((k : Int) + 1)) := by have := HA.out.s.c6; simpa using this
        have hk : k ≤ 10000 := by omega
        have HA1 := Lib.hid (HA.out.dec HJ.out)
        have HDQ1 : Hid (DsQ (fun b => (¬ M b ∧ b ≠ sb) ∧ b ≠ g) (wr.setCell ⟨sb, 6, none⟩ (.int .i64 k)) (.slice ao D.length c) D) := HDQ.out.on (by rw [(setCell_blk _ _ _).1]; exact Nat.le_refl _) (fun b _ hq => (setCell_blk wr ⟨sb, 6, none⟩ _).2 b hq.1.2)
        have HFI := Lib.hid (HA.out.fin D List.mem_cons_self)
        clear HA HDQ
        go_upto_region 7 with fail
        obtain ⟨W1, hW1⟩ : ∃ W1, W1 = wr.setCell ⟨sb, 6, none⟩ (.int .i64 k) := ⟨_, rfl⟩
        rw [← hW1] at HA1 HDQ1 ⊢
        have HW1 := Lib.hid hW1
        have hbw := HA1.out.b
        have hR := theFix_some HFI.out.1
        have PW := HI.out.p.below (HI.out.b.trans hbw)
        have CF0 := fix_f HDQ1.out.at PW HFI.out.1 hR
        have z0 := HA1.out.bx
        have z1 : W1.cell? ⟨sb, 0, none⟩ = some (.slice ap ps.length cp) := HA1.out.s.c0
        clear hW1 x0 x6 f6 f7 y0 y6 y7 g7 htop hbw PW
        generalize hth : theFix ps D = R at *
        have HTH := Lib.hid hth
        clear hth
        rcases R with _ | now
        · have CF : Hid (Calls Tryz.prog 43 #[.slice ao D.length c, .slice ap ps.length cp] W1 fun e W2 => e = .returned (.tuple #[.slice none 0 0, .bool false]) ∧ Below W1.heap.size W1 W2) := CF0.mono fun e W2 ⟨hb, hh⟩ => by
            rcases hh with ⟨_, _, _, h1, _⟩ | ⟨_, h1⟩
            · cases h1
            · exact ⟨h1, hb⟩
          have HS1 := Lib.hid (HS.out.gone HTH.out)
          clear CF0 hR
          go_wp2_with (go_at_call 43; (with_reducible refine CF.out.mono ?_); rintro e W2 ⟨rfl, b2⟩; have B2 := Lib.hid b2; clear b2)
          go_roundg k
          case measure => omega
          case rel => exact ⟨pre, M, g, cap, _, st, rfl, HA1.out.below HJ.out HL.out B2.out, HS1, Lib.hid (by omega)⟩
        · have HNL : Hid (now.length = D0.length) := hR.1.len.trans HFI.out.2
          have HFN := Lib.hid (HFI.out.1.res hR)
          have HNN := Lib.hid hR.1.nor
          have HNE := Lib.hid hR.1.non
          have CF : Hid (Calls Tryz.prog 43 #[.slice ao D.length c, .slice ap ps.length cp] W1 fun e W2 => ∃ an cn, e = .returned (.tuple #[.slice an now.length cn, .bool true]) ∧ Below W1.heap.size W1 W2 ∧ DsFrom W1.heap.size W2 (.slice an now.length cn) now) := CF0.mono fun e W2 ⟨hb, hh⟩ => by
            rcases hh with ⟨d, an, cn, h1, h2, h3⟩ | ⟨h1, _⟩
            · cases h1; exact ⟨an, cn, h2, hb, h3⟩
            · cases h1
          clear CF0 hR
          have HNEW := Lib.hid (HA1.out.new HL.out)
          go_upto_region 9 with (go_at_call 43; (with_reducible refine CF.out.mono ?_); rintro e W2 ⟨an, cn, rfl, b2, d2⟩; have B2 := Lib.hid b2; have HND : Hid (DsQ (fun b => (¬ M b ∧ b ≠ sb) ∧ b ≠ g) W2 (.slice an now.length cn) now) := d2.good HNEW.out; clear b2 d2)
          have HA2 := Lib.hid (HA1.out.below HJ.out HL.out B2.out)
          have hbw := HA2.out.b
          have VW := HI.out.v.below (HI.out.b.trans hbw)
          have WW := HI.out.w.below (HI.out.b.trans hbw)
          have hnd := HND.out.at
          have hns4 := allN_short' HNN.out
          have hse := HI.out.sel
          have hvl := HI.out.vl
          have CC0 : ∀ q : QG W2, Calls Tryz.prog 44 #[.slice an now.length cn, .slice av vars.length cv, .agg #[.int .i64 o.sel, .int .i64 o.ord, .int .i64 o.br, .slice aw o.ws.length cw]] q.1 fun e w' => e = .returned (.int .i64 (bestI (chooseL now vars o.sel o.ws vars.length))) ∧ Below q.1.heap.size q.1 w' := fun q => choose_c _ _ _ o.sel o.ord o.br now vars o.ws q.1 (hnd.below q.2) (VW.below q.2) (WW.below q.2) hns4 hse (by omega)
          have k0' := qb_cell HA2.out.bx
          have k1' := qb_cell HA2.out.s.c1
          have k2' := qb_cell HA2.out.s.c2
          have k3' := qb_cell HA2.out.s.c3
          have k4' := qb_cell HA2.out.s.c4
          have k5' := qb_cell HA2.out.s.c5
          clear z0 z1 HA1 HDQ1 VW WW hnd hns4 hse hbw CF HW1 HNEW
          cases hc : chooseL now vars o.sel o.ws vars.length with
          | none =>
            rw [hc] at CC0
            have CC : Hid (∀ q : QG W2, Calls Tryz.prog 44 #[.slice an now.length cn, .slice av vars.length cv, .agg #[.int .i64 o.sel, .int .i64 o.ord, .int .i64 o.br, .slice aw o.ws.length cw]] q.1 fun e w' => e = .returned (.int .i64 (-1)) ∧ Below q.1.heap.size q.1 w') := CC0
            have HLF := Lib.hid (HS.out.leaf HTH.out hc)
            clear CC0 hc
            refine wp_region_below (by kernel_rfl) (by kernel_rfl) ?_
            repeat (go_big_quiet_step ((go_at_call 44; with_reducible exact qb_call _ (CC.out _))))
            refine wpQuiet_nil ?_
            intro W3 hw3
            have B3 := Lib.hid hw3.below
            have HA3 := Lib.hid (HA2.out.below HJ.out HL.out B3.out)
            have HND3 := Lib.hid (HND.out.below B3.out)
            clear k0' k1' k2' k3' k4' k5' hw3 CC HA2 HND
            have hmk := mk_ints vars.length (by have := HI.out.vl; omega)
            have hvl := HI.out.vl
            have z0 := HA3.out.bx
            have z1 : W3.cell? ⟨sb, 1, none⟩ = some (.slice av vars.length cv) := HA3.out.s.c1
            have z0a : ∀ o, (W3.alloc o).cell? ⟨bs, 0, none⟩ = some (.pointer (some ⟨sb, 0, none⟩)) := fun o => Lib.cell?_alloc_some o z0
            have z1a : ∀ o, (W3.alloc o).cell? ⟨sb, 1, none⟩ = some (.slice av vars.length cv) := fun o => Lib.cell?_alloc_some o z1
            obtain ⟨f, hf⟩ : ∃ f : Int → Int, f = fun v => (endsL (norm (domOf now v))).1 := ⟨_, rfl⟩
            have HF := Lib.hid hf
            have HX0 : Hid ((W3.alloc (.cells (madeCells #[.int .i64 0] vars.length) 3)).ownsRow W3.heap.size 3 1 (.slice (some ⟨W3.heap.size, 0, none⟩) vars.length vars.length) vars.length (fillL f vars 0)) := by
              have h3 := World.ownsRow_lit (base := W3.heap.size) W3 (madeCells #[.int .i64 0] vars.length) vars.length (e := 3) (size := 1) (Nat.le_refl _) (by unfold maxLen; omega) (by simp [size_madeCells])
              rw [toList_madeCells_one] at h3
              show World.ownsRow _ _ _ _ _ _ _
              rw [fill_zero]; exact h3
            have HV3 := Lib.hid (HI.out.v.below (HI.out.b.trans HA3.out.b))
            have HVI := Lib.hid HI.out.vin
            have HBA : Hid (∀ o, Below W3.heap.size W3 (W3.alloc o)) := fun o => (Below.refl _ _).alloc (Nat.le_refl _) o
            obtain ⟨BX, hBX⟩ : ∃ BX, BX = W3.heap.size := ⟨_, rfl⟩
            have HSX := Lib.hid hBX.symm
            rw [← hBX] at HX0
            clear hf
            go_wp2
            rw [HSX.out]
            clear z0 z1 z0a z1a hBX
            go_loopw [79] (fun s wr => ∃ j : Nat, j ≤ vars.length ∧ s = .int .i64 j ∧ Hid (wr.ownsRow BX 3 1 (.slice (some ⟨BX, 0, none⟩) vars.length vars.length) vars.length (fillL f vars j)) ∧ Hid (Below W3.heap.size W3 wr)) (fun s _ => vars.length - (intOf s).toNat)
            case atStart => exact ⟨0, by omega, rfl, HX0, HBA.out _⟩
            case round =>
              clear HX0 HBA hmk
              obtain ⟨j, hj, rfl, HX, HB⟩ := hrel
              have hle := HB.out.size
              by_cases hlt : j < vars.length
              · obtain ⟨bv, ov, rfl, q1, q2, xv⟩ := IsAt.getR (HV3.out.below HB.out) j hlt
                have j1 : (j : Int) < vars.length := by omega
                have hvt := HVI.out _ (List.getElem_mem hlt)
                have HST := Lib.hid (fill_step f vars j hlt)
                obtain ⟨nv, hnv⟩ := Int.eq_ofNat_of_zero_le hvt.1
                rw [hnv] at xv HST hvt
                have hn1 : nv < now.length := by have := hvt.2; have := HNL.out; omega
                obtain ⟨b, off, a5, c5, hen, _, q5, hq5, hc5, r5⟩ := (HND3.out.below HB.out).at.get nv hn1
                clear hq5
                subst hen
                have j2 : (nv : Int) < now.length := by omega
                have hfv : f (nv : Int) = (endsL (norm now[nv])).1 := by rw [HF.out]; dsimp only; rw [domOf_nat hn1]
                have CE := Lib.hid (ends_c _ now[nv] wr r5 (allN_short' HNN.out _ (List.getElem_mem hn1)))
                rw [hfv] at HST
                clear hfv hvt hnv r5
                generalize now[nv] = d at *
                have hxc : ∃ u, wr.cell? ⟨BX, j, none⟩ = some u := ⟨_, by rw [HX.out.cellAt j (by omega)]; exact List.getElem?_eq_getElem (by rw [HX.out.1]; omega)⟩
                obtain ⟨ux, hxc⟩ := hxc
                have hfx := HX.out.frozenAt j
                have hbx := (own_lt HX.out (b := BX) rfl).1
                have CE2 : Hid (Calls Tryz.prog 45 #[.slice a5 d.length c5] wr fun e w' => e = .returned (.tuple #[.int .i64 (endsL (norm d)).1, .int .i64 (endsL (norm d)).2.1, .bool (endsL (norm d)).2.2]) ∧ Below wr.heap.size wr w') := CE.out
                clear CE
                generalize (endsL (norm d)).2.2 = ok at *
                generalize (endsL (norm d)).1 = lo at *
                generalize (endsL (norm d)).2.1 = hi at *
                go_wp2_with (go_at_call 45; (with_reducible refine CE2.out.mono ?_); rintro e W4 ⟨rfl, b4⟩; have HX4 := Lib.hid (own_below HX.out b4); have hxc4 := (b4.cell (p := ⟨BX, j, none⟩) hbx).trans hxc; have hfx4 := HX4.out.frozenAt j; have HB4 := Lib.hid (HB.out.trans (b4.mono hle)); clear b4)
                refine ⟨⟨j + 1, by omega, by go_num, ?_, Lib.hid (HB4.out.setCell (p := ⟨BX, j, none⟩) (Nat.le_of_eq HSX.out) _)⟩, by simp [intOf]; omega⟩
                have h5 := (HX4.out.stored j (.int .i64 lo)).1
                rw [HST.out] at h5
                exact Lib.hid h5
              · obtain rfl : j = vars.length := by omega
                have HA5 := Lib.hid (HA3.out.below HJ.out HL.out HB.out)
                have hX := HX.out
                rw [fill_all] at hX
                have HXI : Hid (GotI w0.heap.size (.slice (some ⟨BX, 0, none⟩) vars.length vars.length, vars.map f) wr) := by
                  refine ⟨?_, fun b e => ?_⟩
                  · show SlAt _ _ _ _ _
                    rw [List.length_map]
                    exact SlAt.of_own hX
                  · have e1 : some BX = some b := e
                    injection e1 with e1
                    have h1 := HI.out.b.size
                    have h2 := HA3.out.b.size
                    have h5 := HSX.out
                    omega
                have hbx := (own_lt hX (b := BX) rfl).1
                have hown : ∀ b, ownI (.slice (some ⟨BX, 0, none⟩) vars.length vars.length, vars.map f) b → b = BX := fun b h => by
                  have : some BX = some b := h
                  injection this with this
                  exact this.symm
                have HOWN := Lib.hid hown
                have HNM : Hid (¬ M BX) := fun hm => by have := HL.out _ _ _ HA3.out.j _ hm; have := HSX.out; omega
                obtain ⟨fn, tmps, assign, body, hy, hR⟩ := HY.out pre M _ wr HA5.out.j HXI.out (fun b h => by rw [hown b h]; exact ⟨hbx, HNM.out⟩)
                dsimp only at hy
                have HR := Lib.hid hR
                have HST5 : Hid (StAt (fun b => (¬ M b ∧ b ≠ sb) ∧ ¬ ownI (.slice (some ⟨BX, 0, none⟩) vars.length vars.length, vars.map f) b) wr w0.heap.size g cap st (us.take st.length)) :=
                  StAt.below (HA3.out.stk.weaken (fun b hb hq => ⟨hq, fun e => by rw [hown b e] at hb; have := HSX.out; omega⟩)) HB.out
                have HXO : Hid (∀ b, ownI (.slice (some ⟨BX, 0, none⟩) vars.length vars.length, vars.map f) b → w0.heap.size ≤ b ∧ b ≠ sb ∧ b ≠ bs) := fun b e => by
                  rw [hown b e]
                  have h1 := HI.out.b.size
                  have h2 := HA3.out.b.size
                  have h3 := HA3.out.s.lt
                  have h4 := World.block_lt_of_cell? W3 _ HA3.out.bx
                  have h5 := HSX.out
                  dsimp only at h4
                  omega
                have HLF1 := HLF.out
                rw [← HF.out] at HLF1
                have HLF2 := Lib.hid HLF1
                clear HLF HLF1 HX hX HXI HV3 HVI HSX hbx hown hR hlt hj
                go_upto_region 17 with fail
                refine (wpIn_wide (n := n)).1 ?_
                gi_wp2
                refine ⟨fun h => (by simp [Fence.wide] at h), HR.out.mono ?_⟩
                rintro e W6 ⟨M', hM', hA, (⟨rfl, hj6⟩ | ⟨rfl, hj6⟩)⟩
                · have HA6 := Lib.hid (AnsW.round HA5.out HXO.out hM' hA hj6 HST5.out)
                  clear hM' hA hj6 HA5 HST5 HXO HJX HOWN HNM
                  dsimp only
                  gi_wp2
                  go_wp2
                  go_roundg k
                  case measure => omega
                  case rel => exact ⟨_, M', g, cap, _, st, rfl, HA6, (by have := HLF2.out.2; rw [List.map_append]; exact this), Lib.hid (by omega)⟩
                · have HA6 := Lib.hid (AnsW.round HA5.out HXO.out hM' hA hj6 HST5.out)
                  have HSTP : Hid (AnsStop ps vars o k0 D0 sb (.slice ap ps.length cp) (.slice av vars.length cv) (.slice aw o.ws.length cw) (pre ++ [(.slice (some ⟨BX, 0, none⟩) vars.length vars.length, vars.map f)]) W6) := ⟨k, HA6.out.s, by have := HLF2.out.1; rw [List.map_append]; rw [List.length_append, List.length_map] at this; rw [List.length_append]; exact this⟩
                  clear hM' hA HA5 HST5 HXO HJ HL HOWN HNM
                  have HJ6 := Lib.hid hj6
                  clear hj6
                  dsimp only
                  gi_wp2
                  go_wp2
                  refine bodyPost_ret (results_none rfl _ _ _) rfl ?_
                  exact ⟨⟨_, rfl⟩, HA6.out.b, M', .inr ⟨_, HSTP.out, HJ6.out⟩⟩
          | some i =>
            rw [hc] at CC0
            have CC : Hid (∀ q : QG W2, Calls Tryz.prog 44 #[.slice an now.length cn, .slice av vars.length cv, .agg #[.int .i64 o.sel, .int .i64 o.ord, .int .i64 o.br, .slice aw o.ws.length cw]] q.1 fun e w' => e = .returned (.int .i64 i) ∧ Below q.1.heap.size q.1 w') := CC0
            have hil : i < vars.length := chooseL_lt _ _ _ _ _ _ hc
            have hsz := choose_some hc
            have HPT := Lib.hid (HS.out.part HTH.out hc)
            clear CC0 hc
            refine wp_region_below (by kernel_rfl) (by kernel_rfl) ?_
            repeat (go_big_quiet_step ((go_at_call 44; with_reducible exact qb_call _ (CC.out _))))
            refine wpQuiet_nil ?_
            intro W3 hw3
            have B3 := Lib.hid hw3.below
            have HA3 := Lib.hid (HA2.out.below HJ.out HL.out B3.out)
            have HND3 := Lib.hid (HND.out.below B3.out)
            clear k0' k1' k2' k3' k4' k5' hw3 CC HA2 HND
            have hvt := HI.out.vin _ (List.getElem_mem hil)
            have hvl := HI.out.vl
            obtain ⟨nv, hnv⟩ := Int.eq_ofNat_of_zero_le hvt.1
            rw [hnv] at hvt
            have hvd : (vars.getD i 0).toNat = nv := by rw [List.getD_eq_getElem?_getD, List.getElem?_eq_getElem hil]; show vars[i].toNat = nv; rw [hnv, Int.toNat_natCast]
            have hvd2 : vars.getD i 0 = (nv : Int) := by rw [List.getD_eq_getElem?_getD, List.getElem?_eq_getElem hil]; exact hnv
            have hn1 : nv < now.length := by have := hvt.2; have := HNL.out; omega
            obtain ⟨bv, ov, rfl, q1, q2, xv⟩ := IsAt.getR (HI.out.v.below (HI.out.b.trans HA3.out.b)) i hil
            rw [hnv] at xv
            obtain ⟨b, off, a5, c5, hen, _, q5, hq5, hc5, r5⟩ := HND3.out.at.get nv hn1
            clear hq5
            subst hen
            have j1 : (i : Int) < vars.length := by omega
            have j2 : (nv : Int) < now.length := by omega
            have hgd : now.getD nv [] = now[nv] := by rw [List.getD_eq_getElem?_getD, List.getElem?_eq_getElem hn1]; rfl
            have HPT2 := HPT.out
            rw [hvd] at HPT2
            unfold partAt at HPT2
            rw [hgd] at HPT2
            dsimp only at HPT2
            rw [hvd2, domAt_nat, hgd] at hsz
            have hdl := allN_short' HNN.out _ (List.getElem_mem hn1)
            have HR5 := Lib.hid r5
            have HOR := HI.out.ord
            have HBR := HI.out.br
            obtain ⟨hnA, hnB⟩ := split_normal now[nv] o.ord o.br
            have HFA := Lib.hid (HFN.out.set HNN.out hnA nv)
            have HFB := Lib.hid (HFN.out.set HNN.out hnB nv)
            have HLA : Hid ((now.set nv (splitL now[nv] o.ord o.br).1).length = D0.length) := by show _ = _; rw [List.length_set]; exact HNL.out
            have HLB : Hid ((now.set nv (splitL now[nv] o.ord o.br).2).length = D0.length) := by show _ = _; rw [List.length_set]; exact HNL.out
            have CS : Hid (∀ W, Below W3.heap.size W3 W → Calls Tryz.prog 46 #[.slice a5 now[nv].length c5, .agg #[.int .i64 o.sel, .int .i64 o.ord, .int .i64 o.br, .slice aw o.ws.length cw]] W fun e W4 => ∃ a1 c1 a2 c2, e = .returned (.tuple #[.slice a1 (splitL now[nv] o.ord o.br).1.length c1, .slice a2 (splitL now[nv] o.ord o.br).2.length c2]) ∧ RgAt W4 (.slice a1 (splitL now[nv] o.ord o.br).1.length c1) (splitL now[nv] o.ord o.br).1 ∧ RgAt W4 (.slice a2 (splitL now[nv] o.ord o.br).2.length c2) (splitL now[nv] o.ord o.br).2 ∧ Below W3.heap.size W3 W4 ∧ (∀ b, (Value.slice a1 (splitL now[nv] o.ord o.br).1.length c1).ownBlock = some b → W3.heap.size ≤ b) ∧ ∀ b, (Value.slice a2 (splitL now[nv] o.ord o.br).2.length c2).ownBlock = some b → W3.heap.size ≤ b) := fun W h =>
              (split_c _ _ o.sel o.ord o.br now[nv] W (HR5.out.below h) hdl HOR HBR _ _ _ rfl).mono fun e W4 ⟨a1, c1, a2, c2, h1, h2, h3, h4, h5, h6⟩ => ⟨a1, c1, a2, c2, h1, h2, h3, h.trans (h4.mono h.size), fun b e => Nat.le_trans h.size (h5 b e), fun b e => Nat.le_trans h.size (h6 b e)⟩
            have HPT3 := Lib.hid HPT2
            clear HPT HPT2 hnA hnB r5 hgd hvd hvd2 hnv hvt hsz hdl HOR HBR
            generalize (splitL now[nv] o.ord o.br).1 = A at *
            generalize (splitL now[nv] o.ord o.br).2 = B at *
            generalize now[nv] = d at *
            have z0 := HA3.out.bx
            have z1 : W3.cell? ⟨sb, 1, none⟩ = some (.slice (some ⟨bv, ov, none⟩) vars.length cv) := HA3.out.s.c1
            have HSW : Hid (∀ W', Below W3.heap.size W3 W' → W'.cell? ⟨b, off + nv, none⟩ = some (.slice a5 d.length c5) ∧ W'.cell? ⟨bs, 0, none⟩ = some (.pointer (some ⟨sb, 0, none⟩)) ∧ W'.cell? ⟨sb, 2, none⟩ = some (.int .i64 o.sel) ∧ W'.cell? ⟨sb, 3, none⟩ = some (.int .i64 o.ord) ∧ W'.cell? ⟨sb, 4, none⟩ = some (.int .i64 o.br) ∧ W'.cell? ⟨sb, 5, none⟩ = some (.slice aw o.ws.length cw)) := fun W' h =>
              have h1 := (HA3.out.below HJ.out HL.out h)
              ⟨(h.cell (p := ⟨b, off + nv, none⟩) q5).trans hc5, h1.bx, h1.s.c2, h1.s.c3, h1.s.c4, h1.s.c5⟩
            obtain ⟨s0, s1, s2, s3, s4, s5⟩ := HSW.out W3 (Below.refl _ _)
            clear hc5
            go_wp2
            go_region_held3 (fun W' => W'.cell? ⟨b, off + nv, none⟩ = some (.slice a5 d.length c5) ∧ W'.cell? ⟨bs, 0, none⟩ = some (.pointer (some ⟨sb, 0, none⟩)) ∧ W'.cell? ⟨sb, 2, none⟩ = some (.int .i64 o.sel) ∧ W'.cell? ⟨sb, 3, none⟩ = some (.int .i64 o.ord) ∧ W'.cell? ⟨sb, 4, none⟩ = some (.int .i64 o.br) ∧ W'.cell? ⟨sb, 5, none⟩ = some (.slice aw o.ws.length cw)) ((first | exact HSW.out _ P4.out | (refine HSW.out _ ?_; go_grown)))
              (first | (go_at_call 46; refine (CS.out _ ?_).mono ?_; (· go_grown); rintro e W4 ⟨a6, c6, a7, c7, rfl, r6, r7, bw, n6, n7⟩; have P4 := Lib.hid bw; have R6 := Lib.hid r6; have R7 := Lib.hid r7; have N6 := Lib.hid n6; have N7 := Lib.hid n7; clear bw r6 r7 n6 n7))
            clear s0 s1 s2 s3 s4 s5 HSW CS HR5
            obtain ⟨i0, hi, hz0', hz1', hz2'⟩ := info_parts Tryz.infoRgss
            have HA4 := Lib.hid (HA3.out.below HJ.out HL.out P4.out)
            have HND4 := Lib.hid (HND3.out.below P4.out)
            have HNW := Lib.hid (HA3.out.new HL.out)
            have RA : Hid (RgQ (fun b => (¬ M b ∧ b ≠ sb) ∧ b ≠ g) W4 (.slice a6 A.length c6) A) := RgQ.of_new R6.out N6.out HNW.out
            have RB : Hid (RgQ (fun b => (¬ M b ∧ b ≠ sb) ∧ b ≠ g) W4 (.slice a7 B.length c7) B) := RgQ.of_new R7.out N7.out HNW.out
            have hnl4 : now.length ≤ 4096 := by have := HFN.out.n; omega
            have CWB : Hid (Calls Tryz.prog 33 #[.slice (some ⟨b, off, none⟩) now.length cn, .int .i64 nv, .slice a7 B.length c7] W4 (RetDn (fun b => (¬ M b ∧ b ≠ sb) ∧ b ≠ g) now.length (now.set nv B) W4)) := with_n _ _ nv _ now B W4 HND4.out RB.out hn1 hnl4
            have CWA : Hid (∀ W, Below W4.heap.size W4 W → Calls Tryz.prog 33 #[.slice (some ⟨b, off, none⟩) now.length cn, .int .i64 nv, .slice a6 A.length c6] W (RetDn (fun b => (¬ M b ∧ b ≠ sb) ∧ b ≠ g) now.length (now.set nv A) W)) := fun W h => with_n _ _ nv _ now A W (HND4.out.below h) (RA.out.below h) hn1 hnl4
            have HUL : Hid ((us.take st.length).length = st.length) := HA4.out.stk.len
            have HNW4 := Lib.hid (HA4.out.new HL.out)
            have hn0 : w0.heap.size ≤ W4.heap.size := Nat.le_trans HA4.out.nl HA4.out.b.size
            have HAL : Hid (∀ (W : World) (o : Obj), Below W.heap.size W (W.alloc o)) := fun W o => (Below.refl _ _).alloc (Nat.le_refl _) o
            clear HNW HND3 RA RB R6 R7 N6 N7 HND4 P4 HA3 xv z0 z1 hnl4 j2
            go_wp2_with (first
              | (go_at_call 33; (with_reducible refine CWB.out.mono ?_); rintro e W5 ⟨g5, c5', u5', rfl, i5, b5⟩; have I5 := Lib.hid i5; have B5 := Lib.hid b5; clear i5 b5)
              | (go_at_call 33; (with_reducible refine (CWA.out _ B5.out).mono ?_); rintro e W6 ⟨g6, c6', u6', rfl, i6, b6⟩; have I6 := Lib.hid (DsQ.below (i6.q (fun b hb => HNW4.out b (Nat.le_trans B5.out.size hb))) (HAL.out W6 (.cells #[.slice (some ⟨g5, 0, none⟩) now.length c5', .slice (some ⟨g6, 0, none⟩) now.length c6'] 22))); have B6 := Lib.hid ((B5.out.trans (b6.mono B5.out.size)).trans ((HAL.out W6 (.cells #[.slice (some ⟨g5, 0, none⟩) now.length c5', .slice (some ⟨g6, 0, none⟩) now.length c6'] 22)).mono (Nat.le_trans B5.out.size b6.size))); have I5' := Lib.hid (DsQ.below (DsQ.below (I5.out.q HNW4.out) b6) (HAL.out W6 (.cells #[.slice (some ⟨g5, 0, none⟩) now.length c5', .slice (some ⟨g6, 0, none⟩) now.length c6'] 22))); have hsz6 := b6.size; clear i6 b6; have HA6 := Lib.hid (HA4.out.below HJ.out HL.out B6.out); have hown6 := HA6.out.stk.own)
              | (at_builtin; refine wpList_appendTwo rfl (.tmp 120) (.tmp 129) 83 rfl w0.heap.size 22 i0 (.slice none 0 0) 24 Tryz.underlying83 hi hz0' hz1' hz2' rfl _ st.length (us.take st.length) rfl (.slice (some ⟨g5, 0, none⟩) now.length c5') (.slice (some ⟨g6, 0, none⟩) now.length c6') hown6 rfl rfl rfl (by omega) (Nat.le_trans hn0 (Nat.le_trans B5.out.size hsz6)) ?_; intro g7 cap7 W7 ow7 gr7 ly7))
            have HA7 := Lib.hid (AnsW.push HA4.out HJ.out HL.out B6.out I6.out I5'.out ⟨HFA.out, HLA.out⟩ ⟨HFB.out, HLB.out⟩ ow7 gr7 (ly7.imp (fun e => Option.some.inj (show some g7 = some g from e.symm)) id) hlow)
            go_roundg k
            case measure => omega
            case rel => exact ⟨pre, M, g7, cap7, _, _, rfl, HA7, HPT3, Lib.hid (by simp only [List.length_cons]; omega)⟩
end Go.Proofs.YtaekdgikgbdnnaaGreat
