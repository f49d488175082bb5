/-
  rel.Once's closures: what keeps a set, what asks whether one is empty; walked.
  rel.Once asks whether a set is empty; walked.
  The linear constraint's narrow, walked.
  The narrow of unlike variables, walked.
-/
import Derived.Test.YtajooiainglpmaaGreatKonce3
import Derived.Test.YtajooiainglpmaaGreatKlin5
import Derived.Test.YtajooiainglpmaaGreatKrel2
import Derived.Test.YtajooiainglpmaaGreatKonce1
namespace Go.Proofs.YtajooiainglpmaaGreat
open Go.RowKit

/-- whatever is not in block g stays -/
def Stay (W W' : World) (g : Nat) : Prop := W.heap.size ≤ W'.heap.size ∧ ∀ b, b < W.heap.size → b ≠ g → W'.heap[b]? = W.heap[b]?
theorem Stay.refl (W : World) (g : Nat) : Stay W W g := ⟨Nat.le_refl _, fun _ _ _ => rfl⟩
theorem Stay.trans {a b c : World} {g : Nat} (h : Stay a b g) (k : Stay b c g) : Stay a c g := ⟨Nat.le_trans h.1 k.1, fun i h1 h2 => (k.2 i (Nat.lt_of_lt_of_le h1 h.1) h2).trans (h.2 i h1 h2)⟩
theorem Stay.of_below {W W' : World} {g : Nat} (h : Below W.heap.size W W') : Stay W W' g := ⟨h.size, fun b hb _ => h.block b hb⟩
theorem Stay.cell {W W' : World} {g : Nat} (h : Stay W W' g) {p : Addr} (hl : p.block < W.heap.size) (hne : p.block ≠ g) : W'.cell? p = W.cell? p := World.cell?_of_block (h.2 p.block hl hne)
theorem Stay.setCell {W W' : World} {g : Nat} (h : Stay W W' g) (j : Nat) (u : Value) : Stay W (W'.setCell ⟨g, j, none⟩ u) g :=
  ⟨by simpa [World.setCell] using h.1, fun b hb hne => (Below.heap_setCell _ _ _ _ (by simpa using hne)).trans (h.2 b hb hne)⟩
theorem Stay.drewN {W W' : World} {g : Nat} (h : Stay W W' g) (q : Nat) : Stay W (W'.drewN q) g := h
theorem Box1.stay {W W' : World} {b g : Nat} {x : Value} (h : Box1 W b x) (hs : Stay W W' g) (hne : b ≠ g) : Box1 W' b x :=
  ⟨(World.cell?_of_block (a := ⟨b, 0, none⟩) (hs.2 b h.lt hne)).trans h.c0, (World.frozen?_of_block (a := ⟨b, 0, none⟩) (hs.2 b h.lt hne)).trans h.f0⟩
theorem BoxL.stay {W W' : World} {b g : Nat} {cs : List Value} (h : BoxL W b cs) (hp : 0 < cs.length) (hs : Stay W W' g) (hne : b ≠ g) : BoxL W' b cs := h.block (hs.2 b (h.lt hp) hne)

/-- the sets that are narrowed: an own list, in a box -/
structure OutAt (W : World) (B bo g : Nat) (out : Ds) : Prop where
  own : DsOwn W B (.slice (some ⟨g, 0, none⟩) out.length out.length) out
  box : Box1 W bo (.slice (some ⟨g, 0, none⟩) out.length out.length)
  ne : bo ≠ g
  low : B ≤ bo
  gl : B ≤ g
  len : ∀ d ∈ out, d.length ≤ 4096
  new : ∀ j, (hj : j < out.length) → ∀ u, W.cell? ⟨g, j, none⟩ = some u → ∀ b, u.ownBlock = some b → B ≤ b
theorem OutAt.below {W W' : World} {B bo g : Nat} {out : Ds} (h : OutAt W B bo g out) (hb : Below W.heap.size W W') : OutAt W' B bo g out :=
  ⟨h.own.below hb, h.box.below hb h.box.lt, h.ne, h.low, h.gl, h.len, fun j hj u hu b e => by
    obtain ⟨_, _, _, _, _, hgl, _, _, _⟩ := h.own.get' j hj
    exact h.new j hj u ((hb.cell (p := ⟨g, j, none⟩) hgl).symm.trans hu) b e⟩
theorem domOf_nat {ds : Ds} {n : Nat} (h : n < ds.length) : domOf ds (n : Int) = ds[n] := by
  unfold domOf; simp [List.getD_eq_getElem?_getD, List.getElem?_eq_getElem h]

set_option maxRecDepth 100000 in
set_option maxHeartbeats 1600000 in
theorem keep_c (B bo g n : Nat) (out : Ds) (d : List Rg) (dv : Value) (W : World) (h : OutAt W B bo g out) (hn : n < out.length) (hd : RgAt W dv d) (hdl : d.length ≤ 4096) (hBW : B ≤ W.heap.size) (_hol : out.length ≤ 4096) :
    Calls Tryz.prog 35 #[.int .i64 n, dv, .pointer (some ⟨bo, 0, none⟩)] W fun e W' => (∃ u, e = .returned u) ∧ OutAt W' B bo g (keepL out ((n : Int), d)) ∧ Below B W W' ∧ Stay W W' g := by
  obtain ⟨ao, cap, rfl, _⟩ := hd.shape
  obtain ⟨a1, c1, _, _, _, hgl, hc, hf, hr⟩ := h.own.get' n hn
  have hml : out[n].length ≤ 4096 := h.len _ (List.getElem_mem hn)
  have CM := Lib.hid (fun (W1 : World) (hb : Below W.heap.size W W1) => meet_n _ _ out[n] d W1 (hr.below hb) (hd.below hb) hml hdl)
  have H := Lib.hid h
  have hb0 := h.box.c0
  have hne := h.ne
  have hj : (n : Int) < out.length := by omega
  have e0 : keepL out ((n : Int), d) = out.set n (meetL out[n] d) := by unfold keepL; rw [domOf_nat hn]; rfl
  rw [e0]
  have hm : (meetL out[n] d).length ≤ 201 := canon_len _
  generalize meetL out[n] d = M at *
  clear h hd hr e0
  have HR : Hid (∀ W1, Below W.heap.size W W1 → W1.cell? ⟨bo, 0, none⟩ = some (.slice (some ⟨g, 0, none⟩) out.length out.length) ∧ W1.cell? ⟨g, n, none⟩ = some (.slice a1 out[n].length c1) ∧ W1.frozen? ⟨g, n, none⟩ = false) := fun W1 hb =>
    ⟨(hb.cell (p := ⟨bo, 0, none⟩) H.out.box.lt).trans hb0, (hb.cell (p := ⟨g, n, none⟩) hgl).trans hc, (hb.frozen (p := ⟨g, n, none⟩) hgl).trans hf⟩
  generalize out[n].length = ol at *
  go_enter Tryz.func35, Tryz.ntmps35
  go_wp2
  go_region_with ((go_at_call 36; (with_reducible refine (CM.out _ ?_).mono ?_); (· go_grown); rintro e W1 ⟨a3, c3, rfl, r3, b3, n3⟩; have N3 := Lib.hid n3; clear n3; have bw : Below W.heap.size W W1 := Below.trans ((Below.refl _ W).drew) b3; obtain ⟨z0, z1, z2⟩ := HR.out W1 bw; have R3 := Lib.hid r3; have B3 := Lib.hid bw; clear b3 r3 bw))
  all_goals
    go_end0
    refine ⟨⟨_, rfl⟩, ⟨?_, ?_, H.out.ne, H.out.low, H.out.gl, ?_, ?_⟩, ?_, ?_⟩
    · rw [List.length_set]
      exact DsOwn.set (H.out.own.below B3.out) n hn R3.out
    · rw [List.length_set]
      exact (H.out.box.below B3.out H.out.box.lt).far hne _
    · intro x hx
      rcases List.mem_or_eq_of_mem_set hx with hx | rfl
      · exact H.out.len x hx
      · omega
    · intro j hj u hu b e
      by_cases hjn : j = n
      · subst hjn
        rw [World.cell?_setCell_same _ _ _ z1] at hu
        injection hu with hu
        subst hu
        exact Nat.le_trans hBW (N3.out b e)
      · rw [World.cell?_setCell_other _ _ _ _ (fun he => hjn (by injection he with _ h2 _; exact h2.symm))] at hu
        rw [List.length_set] at hj
        obtain ⟨_, _, _, _, _, hgl2, _, _, _⟩ := H.out.own.get' j hj
        exact H.out.new j hj u ((B3.out.cell (p := ⟨g, j, none⟩) hgl2).symm.trans hu) b e
    · exact (B3.out.mono hBW).setCell (p := ⟨g, n, none⟩) H.out.gl _
    · exact (Stay.of_below B3.out).setCell n _
end Go.Proofs.YtajooiainglpmaaGreat
namespace Go.Proofs.YtajooiainglpmaaGreat
open Go.RowKit

def empB (out : Ds) (v : Int) : Bool := decide (domOf out v = [])
theorem len_nil (d : List Rg) : ((d.length : Int) == 0) = decide (d = []) := by
  cases d with
  | nil => rfl
  | cons r t => simp; omega

set_option maxRecDepth 100000 in
theorem emp_any (B bo g : Nat) (out : Ds) (v : Int) (w : World) (h : OutAt w B bo g out) (hv : 0 ≤ v ∧ v.toNat < out.length) :
    Calls Tryz.prog 33 #[.int .i64 v, .pointer (some ⟨bo, 0, none⟩)] w fun e w' => e = .returned (.bool (empB out v)) ∧ w = w' := by
  obtain ⟨n, rfl⟩ : ∃ n : Nat, v = n := ⟨v.toNat, by omega⟩
  have hn : n < out.length := by omega
  obtain ⟨a1, c1, _, _, _, _, hc, _, _⟩ := h.own.get' n hn
  have hb := h.box.c0
  have hj : (n : Int) < out.length := by omega
  have e0 : empB out (n : Int) = ((out[n].length : Int) == 0) := by unfold empB; rw [domOf_nat hn, len_nil]
  rw [e0]
  clear h e0 hv
  generalize out[n].length = ol at *
  go_enter Tryz.func33, Tryz.ntmps33
  go_wp2
  go_ret
  exact ⟨rfl, rfl⟩

set_option maxHeartbeats 400000 in
theorem indexEmp_any (B bx g : Nat) (out : Ds) (v : Value) (zs : List Int) (w : World) (hc : OutAt w B bx g out) (h : IsAt w v zs) (hl : zs.length ≤ 4097) (hv : ∀ z ∈ zs, 0 ≤ z ∧ z.toNat < out.length) :
    Calls Tryz.prog 62 #[v, .func (.func 33) #[] #[.pointer (some ⟨bx, 0, none⟩)]] w fun e w' => e = .returned (.int .i64 (findI (empB out) zs)) ∧ w = w' := by
  obtain ⟨ao, cap, rfl, _⟩ := h.shape
  have H := Lib.hid h
  have HC := Lib.hid hc
  have HV := Lib.hid hv
  clear h hc hv
  go_enter Tryz.func62, Tryz.ntmps62
  go_wp2
  go_loop [8] (fun i => ∃ k : Nat, k ≤ zs.length ∧ i = .int .i64 k ∧ (zs.take k).any (empB out) = false) (fun i => zs.length - (intOf i).toNat)
  case atStart => exact ⟨0, by omega, rfl, by simp⟩
  case round =>
    obtain ⟨k, hk, rfl, hnot⟩ := hrel
    have HN := Lib.hid hnot
    clear hnot
    by_cases hlt : k < zs.length
    · obtain ⟨b, off, cap', he, _, _, hc⟩ := IsAt.at H.out (by omega)
      simp only [Value.slice.injEq, true_and] at he
      obtain ⟨rfl, rfl⟩ := he
      have hcell := hc k hlt
      clear hc
      obtain ⟨z, hz⟩ : ∃ z, z = zs[k] := ⟨_, rfl⟩
      have hzm : z ∈ zs := by rw [hz]; exact List.getElem_mem hlt
      rw [← hz] at hcell
      cases ho : empB out z with
      | true =>
        have HF := Lib.hid (findIdx_hit (empB out) zs k hlt HN.out (by rw [← hz]; exact ho))
        have CO : Hid (Calls Tryz.prog 33 #[.int .i64 z, .pointer (some ⟨bx, 0, none⟩)] w fun e w' => e = .returned (.bool true) ∧ w = w') := by rw [← ho]; exact emp_any B bx g out z w HC.out (HV.out z hzm)
        clear hz ho hzm
        go_wp2_with (first | (go_at_call 33; ((with_reducible refine CO.out.mono ?_); rintro e w' ⟨rfl, rfl⟩)))
        go_ret
        exact ⟨ret_int HF.out.symm, rfl⟩
      | false =>
        have HF := Lib.hid (any_take_step (empB out) zs k hlt HN.out (by rw [← hz]; exact ho))
        have CO : Hid (Calls Tryz.prog 33 #[.int .i64 z, .pointer (some ⟨bx, 0, none⟩)] w fun e w' => e = .returned (.bool false) ∧ w = w') := by rw [← ho]; exact emp_any B bx g out z w HC.out (HV.out z hzm)
        clear hz ho hzm
        go_wp2_with (first | (go_at_call 33; ((with_reducible refine CO.out.mono ?_); rintro e w' ⟨rfl, rfl⟩)))
        go_round
        case rel => exact ⟨k + 1, by omega, by go_num, HF.out⟩
        case measure => simp [intOf]; omega
    · have HF : Hid (findI (empB out) zs = -1) := findIdx_none (empB out) zs (by have := HN.out; rwa [List.take_of_length_le (by omega)] at this)
      go_wp2
      go_ret
      exact ⟨ret_int HF.out.symm, rfl⟩

set_option maxHeartbeats 400000 in
theorem containsEmp_any (B bx g : Nat) (out : Ds) (v : Value) (zs : List Int) (w : World) (hc : OutAt w B bx g out) (h : IsAt w v zs) (hl : zs.length ≤ 4097) (hv : ∀ z ∈ zs, 0 ≤ z ∧ z.toNat < out.length) :
    Calls Tryz.prog 34 #[v, .func (.func 33) #[] #[.pointer (some ⟨bx, 0, none⟩)]] w fun e w' => e = .returned (.bool (zs.any (empB out))) ∧ w = w' := by
  have CI := Lib.hid (indexEmp_any B bx g out v zs w hc h hl hv)
  clear h hc hv
  go_enter Tryz.func34, Tryz.ntmps34
  go_wp2_with (first | (go_at_call 62; ((with_reducible refine CI.out.mono ?_); rintro e w' ⟨rfl, rfl⟩)))
  go_ret
  exact ⟨ret_bool (findI_nonneg _ _), rfl⟩
end Go.Proofs.YtajooiainglpmaaGreat
namespace Go.Proofs.YtajooiainglpmaaGreat
open Go.RowKit

theorem OutAt.no_int {W : World} {B bo g : Nat} {out : Ds} (h : OutAt W B bo g out) (o : Nat) (z : Int) : W.cell? ⟨g, o, none⟩ ≠ some (.int .i64 z) := by
  intro hc
  by_cases ho : o < out.length
  · obtain ⟨_, _, _, _, _, _, hs, _, _⟩ := h.own.get' o ho
    rw [hs] at hc; cases hc
  · obtain ⟨us, h1, ⟨_, h2⟩, _⟩ := h.own
    rcases h2 with ⟨he, _⟩ | ⟨g', cap, cur, he, _, hg, _, _, hs, _⟩
    · cases he
    · simp only [Value.slice.injEq, Option.some.injEq, Addr.mk.injEq] at he
      obtain ⟨⟨rfl, _, _⟩, _, rfl⟩ := he
      have : W.cell? ⟨g, o, none⟩ = cur[o]? := by simp [World.cell?, hg]
      rw [this, Array.getElem?_eq_none (by omega)] at hc
      cases hc
theorem RgAt.stay {W W' : World} {B bo g : Nat} {out : Ds} {u : Value} {d : List Rg} (h : RgAt W u d) (ho : OutAt W B bo g out) (hs : Stay W W' g) : RgAt W' u d := by
  obtain ⟨h1, ao, cap, rfl, h2, h3, h5, h4⟩ := h
  refine ⟨h1, ao, cap, rfl, h2, h3, h5, fun hp => ?_⟩
  obtain ⟨b, off, rfl, hlt, hc⟩ := h4 hp
  have hne : b ≠ g := by
    rintro rfl
    have h0 := hc 0 hp
    obtain ⟨a1, _⟩ := cellsR_at d 0 (by omega)
    rw [show 0 = 0 * 2 by rfl] at h0
    rw [a1] at h0
    exact ho.no_int _ _ h0
  exact ⟨b, off, rfl, Nat.lt_of_lt_of_le hlt hs.1, fun j hj => (hs.cell (p := ⟨b, off + j, none⟩) hlt hne).trans (hc j hj)⟩

/-- what a narrow leaves -/
def NarR (r : Option Ks) (B bo g : Nat) (out : Ds) (W : World) (e : Ending) (W' : World) : Prop :=
  Below B W W' ∧ Stay W W' g ∧ ((∃ ks, r = some ks ∧ e = .returned (.bool true) ∧ OutAt W' B bo g (keepsL ks out)) ∨ (r = none ∧ e = .returned (.bool false)))
theorem allN_at {ds : Ds} (h : AllN ds) {n : Nat} (hn : n < ds.length) : Normal ds[n] := by
  have := h n
  rwa [List.getD_eq_getElem?_getD, List.getElem?_eq_getElem hn] at this

set_option maxRecDepth 100000 in
set_option maxHeartbeats 1600000 in
theorem narLin_c (va vb vds : Value) (rel C : Int) (coef vars : List Int) (was out : Ds) (w0 W : World) (B bo g : Nat) (hB : w0.heap.size = B) (hW : Below B w0 W) (h0 : IsAt W va coef) (h1 : IsAt W vb vars) (hvb : 0 < vars.length → ∀ b, vb.ownBlock = some b → b ≠ g) (hd : DsAt w0 vds was)
    (hg : GoodL coef vars was) (hr : rel = 1 ∨ rel = 2 ∨ rel = 3) (hC : -1099511627778 ≤ C ∧ C ≤ 1099511627778) (hnz : ∀ c ∈ coef, c ≠ 0) (hdl : was.length ≤ 4096) (hN : AllN was) (ho : OutAt W B bo g out) (hol : out.length = was.length) :
    Calls Tryz.prog 125 #[.agg #[va, vb, .int .i64 rel, .int .i64 C], vds, .func (.func 35) #[] #[.pointer (some ⟨bo, 0, none⟩)]] W (NarR (linKs rel C (coef.zip vars) vars was) B bo g out W) := by
  subst hB
  obtain ⟨a0, c0, rfl, _⟩ := IsAt.shape h0
  obtain ⟨a1, c1, rfl, hc1, _⟩ := IsAt.shape h1
  obtain ⟨a2, c2, rfl, _⟩ := hd.shape
  have hWl := hW.size
  have HZ : Hid (∀ o, Below W.heap.size W (W.alloc o)) := fun o => (Below.refl _ _).alloc (Nat.le_refl _) o
  have HZB : Hid (∀ o, Below w0.heap.size W (W.alloc o)) := fun o => (Below.refl _ _).alloc hWl o
  have CO0 : Hid (∀ W1, Below W.heap.size W W1 → Calls Tryz.prog 128 #[.agg #[.slice a0 coef.length c0, .slice a1 vars.length c1, .int .i64 rel, .int .i64 C], .slice a2 was.length c2] W1 (RetOn (onceL rel C was (coef.zip vars)) W1)) := fun W1 h =>
    once_n _ _ _ rel C coef vars was W1 (h0.below h) (h1.below h) (hd.below (hW.trans (h.mono hWl))) hg hr hC hnz hdl
  have HO := Lib.hid ho
  have H1 := Lib.hid h1
  have HW := Lib.hid hW
  have HV := Lib.hid hg.vars
  have HVB := Lib.hid hvb
  have hvl : vars.length ≤ 16 := by have := hg.len; have := hg.le16; omega
  unfold linKs
  cases hres : onceL rel C was (coef.zip vars) with
  | none =>
    have CO : Hid (∀ W1, Below W.heap.size W W1 → Calls Tryz.prog 128 #[.agg #[.slice a0 coef.length c0, .slice a1 vars.length c1, .int .i64 rel, .int .i64 C], .slice a2 was.length c2] W1 fun e w' => e = .returned (.tuple #[.slice none 0 0, .bool false]) ∧ Below W1.heap.size W1 w') := fun W1 h =>
      (CO0.out W1 h).mono fun e w' ⟨hb, hx⟩ => by
        rcases hx with ⟨ds, ao, cap, he, _⟩ | ⟨_, he⟩
        · rw [hres] at he; cases he
        · exact ⟨he, hb⟩
    clear h0 h1 hd hg ho hW hres CO0 hnz hN hvb
    go_enter Tryz.func125, Tryz.ntmps125
    go_wp2_with (go_at_call 128; (with_reducible refine (CO.out _ (HZ.out _)).mono ?_); rintro e W2 ⟨rfl, bb⟩; have y1 := bb.cell (p := ⟨W.heap.size, 1, none⟩) (by simp); simp at y1; have B2 := Lib.hid ((HZ.out _).trans (bb.mono (HZ.out _).size)); clear bb)
    go_loopw [22] (fun s wr => ∃ k : Nat, k ≤ vars.length ∧ s = .int .i64 k ∧ Hid (wr = W2)) (fun s _ => vars.length - (intOf s).toNat)
    case atStart => exact ⟨0, by omega, rfl, rfl⟩
    case round =>
      obtain ⟨k, hk, rfl, HE⟩ := hrel
      obtain rfl : wr = W2 := HE.out
      by_cases hlt : k < vars.length
      · obtain ⟨b1, o1, rfl, _, hb1, x1⟩ := H1.out.get k hlt
        have j1 : (k : Int) < vars.length := by omega
        rw [← (B2.out.cell (p := ⟨b1, o1 + k, none⟩) hb1)] at x1
        generalize vars[k] = v at *
        go_wp2
        exact ⟨⟨k + 1, by omega, by go_num, Lib.hid trivial⟩, by simp [intOf]; omega⟩
      · go_wp2
        go_ret
        exact ⟨B2.out.mono hWl, Stay.of_below B2.out, .inr ⟨rfl, rfl⟩⟩
  | some o =>
    obtain ⟨hol2, hNo, _, _, _⟩ := once_spec rel C was hN (coef.zip vars) (fun q hq => by have := hg.vars _ (List.of_mem_zip hq).2; omega) o hres
    have CO : Hid (∀ W1, Below W.heap.size W W1 → Calls Tryz.prog 128 #[.agg #[.slice a0 coef.length c0, .slice a1 vars.length c1, .int .i64 rel, .int .i64 C], .slice a2 was.length c2] W1 fun e w' => ∃ ao cap, e = .returned (.tuple #[.slice ao o.length cap, .bool true]) ∧ DsAt w' (.slice ao o.length cap) o ∧ (∀ b, (Value.slice ao o.length cap).ownBlock = some b → W1.heap.size ≤ b) ∧ Below W1.heap.size W1 w') := fun W1 h =>
      (CO0.out W1 h).mono fun e w' ⟨hb, hx⟩ => by
        rcases hx with ⟨ds, ao, cap, he, he2, hd2, hn2⟩ | ⟨he, _⟩
        · rw [hres] at he; injection he with he; subst he; exact ⟨ao, cap, he2, hd2, hn2, hb⟩
        · rw [hres] at he; cases he
    simp only [Option.map_some]
    have HNo : Hid (∀ n, (hn : n < o.length) → o[n].length ≤ 201) := fun n hn => normal_len (allN_at hNo hn)
    have hol3 : out.length = o.length := by rw [hol, hol2]
    clear h0 h1 hd hg ho hW hres CO0 hnz hN hNo hvb
    go_enter Tryz.func125, Tryz.ntmps125
    go_wp2_with (go_at_call 128; (with_reducible refine (CO.out _ (HZ.out _)).mono ?_); rintro e W2 ⟨ao, cap, rfl, d2, n2, bb⟩; have y1 := bb.cell (p := ⟨W.heap.size, 1, none⟩) (by simp); simp at y1; have B2 := Lib.hid ((HZ.out _).trans (bb.mono (HZ.out _).size)); have D2 := Lib.hid d2; have N2 : Hid (∀ b, (Value.slice ao o.length cap).ownBlock = some b → W.heap.size < b + 1) := (fun b hb => by have := n2 b hb; simp at this; omega); clear bb d2 n2)
    have HG : Hid (g < W.heap.size) := by
      obtain ⟨us, _, ow, _⟩ := HO.out.own
      exact (ow.lt g rfl).2
    have HO2 := Lib.hid (HO.out.below B2.out)
    have E0 : Hid (out.length = was.length) := hol
    have E1 : Hid (out.length = o.length) := hol3
    have E2 : Hid (o.length = was.length) := hol2
    clear hol hol2 hol3
    go_loopw [22] (fun s wr => ∃ k : Nat, k ≤ vars.length ∧ s = .int .i64 k ∧ Hid (OutAt wr w0.heap.size bo g (keepsL ((vars.take k).map fun v => (v, domOf o v)) out)) ∧ Hid (Stay W2 wr g) ∧ Hid (Below w0.heap.size W2 wr)) (fun s _ => vars.length - (intOf s).toNat)
    case atStart => exact ⟨0, by omega, rfl, HO2, Stay.refl _ _, Below.refl _ _⟩
    case round =>
      obtain ⟨k, hk, rfl, HOk, HSk, HBk⟩ := hrel
      have HBB := Lib.hid (HW.out.trans ((B2.out.mono hWl).trans HBk.out))
      by_cases hlt : k < vars.length
      · obtain ⟨b1, o1, rfl, _, hb1, x1⟩ := H1.out.get k hlt
        have j1 : (k : Int) < vars.length := by omega
        rw [← (B2.out.cell (p := ⟨b1, o1 + k, none⟩) hb1), ← HSk.out.cell (p := ⟨b1, o1 + k, none⟩) (Nat.lt_of_lt_of_le hb1 B2.out.size) (HVB.out (by omega) b1 rfl)] at x1
        obtain ⟨n, e1, hn, _⟩ := domOf_in was vars[k] (HV.out _ (List.getElem_mem hlt))
        have hno : n < o.length := by have := E2.out; omega
        obtain ⟨b2, o2, ao', cap', rfl, q2, l2, _, x2, x3⟩ := D2.out.get n hno
        have hne : b2 ≠ g := by have := N2.out b2 rfl; have := HG.out; omega
        rw [← HSk.out.cell (p := ⟨b2, o2 + n, none⟩) l2 hne] at x2
        have HR := Lib.hid (x3.stay HO2.out HSk.out)
        have hl4 := HNo.out n hno
        have j3 : (n : Int) < o.length := by omega
        have hst : (vars.take (k + 1)).map (fun v => (v, domOf o v)) = (vars.take k).map (fun v => (v, domOf o v)) ++ [((n : Int), o[n])] := by
          rw [List.take_succ_eq_append_getElem hlt, List.map_append, e1]
          simp [domOf_nat hno]
        have HST := Lib.hid hst
        rw [e1] at x1
        have hkl : (keepsL ((vars.take k).map fun v => (v, domOf o v)) out).length = o.length := by rw [keepsL_len]; exact E1.out
        have CK : Hid (Calls Tryz.prog 35 #[.int .i64 n, .slice ao' o[n].length cap', .pointer (some ⟨bo, 0, none⟩)] wr fun e W' => (∃ u, e = .returned u) ∧ OutAt W' w0.heap.size bo g (keepsL ((vars.take (k + 1)).map fun v => (v, domOf o v)) out) ∧ Below w0.heap.size wr W' ∧ Stay wr W' g) := by
          rw [HST.out, keepsL_snoc]
          exact keep_c w0.heap.size bo g n _ o[n] _ wr HOk.out (by rw [hkl]; exact hno) HR.out (by omega) HBB.out.size (by rw [hkl]; have := E2.out; omega)
        clear hst x3 hkl e1
        generalize o[n].length = on at *
        go_wp2_with (go_at_call 35; (with_reducible refine CK.out.mono ?_); rintro e W3 ⟨⟨u, rfl⟩, o3, b3, s3⟩; have O3 := Lib.hid o3; have B3 := Lib.hid (HBk.out.trans b3); have S3 := Lib.hid (HSk.out.trans s3); clear o3 b3 s3)
        exact ⟨⟨k + 1, by omega, by go_num, O3, S3, B3⟩, by simp [intOf]; omega⟩
      · obtain rfl : k = vars.length := by omega
        have HF : Hid (OutAt wr w0.heap.size bo g (keepsL (vars.map fun v => (v, domOf o v)) out)) := by have := HOk.out; rwa [List.take_length] at this
        go_wp2
        go_ret
        exact ⟨(B2.out.mono hWl).trans HBk.out, (Stay.of_below B2.out).trans HSk.out, .inl ⟨_, rfl, rfl, HF.out⟩⟩
end Go.Proofs.YtajooiainglpmaaGreat
namespace Go.Proofs.YtajooiainglpmaaGreat
open Go.RowKit

theorem getD_atO {l : List Int} {i : Nat} (h : i < l.length) : l.getD i 0 = l[i] := by simp [List.getD_eq_getElem?_getD, List.getElem?_eq_getElem h]

set_option maxRecDepth 100000 in
set_option maxHeartbeats 1600000 in
theorem narDiff_c (va vds : Value) (l : List Int) (was out : Ds) (w0 W : World) (B bo g : Nat) (hB : w0.heap.size = B) (hW : Below B w0 W) (h0 : IsAt w0 va l) (hd : DsAt w0 vds was)
    (hv : ∀ v ∈ l, 0 ≤ v ∧ v < was.length) (hll : l.length ≤ 4096) (hdl : was.length ≤ 4096) (hdm : ∀ d ∈ was, d.length ≤ 4096) (ho : OutAt W B bo g out) (hol : out.length = was.length) :
    Calls Tryz.prog 154 #[.agg #[va], vds, .func (.func 35) #[] #[.pointer (some ⟨bo, 0, none⟩)]] W (NarR (some (diffTo l was l.length)) B bo g out W) := by
  subst hB
  obtain ⟨a0, c0, rfl, hc0, _⟩ := IsAt.shape h0
  obtain ⟨a2, c2, rfl, _⟩ := hd.shape
  have hWl := hW.size
  have HZ : Hid (∀ o, Below W.heap.size W (W.alloc o)) := fun o => (Below.refl _ _).alloc (Nat.le_refl _) o
  have HZB : Hid (∀ o, Below w0.heap.size W (W.alloc o)) := fun o => (Below.refl _ _).alloc hWl o
  have HO := Lib.hid ho
  have H1 := Lib.hid h0
  have HD := Lib.hid hd
  have HW := Lib.hid hW
  have HV := Lib.hid hv
  have HM := Lib.hid hdm
  have HG : Hid (g < W.heap.size) := by
    obtain ⟨us, _, ow, _⟩ := HO.out.own
    exact (ow.lt g rfl).2
  have HX := Lib.hid (Box1.mk' W (.slice a0 l.length c0) 79)
  have E0 := Lib.hid hol
  have HO1 := Lib.hid (HO.out.below (HZ.out (.cells #[.slice a0 l.length c0] 79)))
  clear h0 hd hv ho hW hdm hol
  have hb0 := HX.out.c0
  go_enter Tryz.func154, Tryz.ntmps154
  go_wp2
  go_loopw [14] (fun s wr => ∃ i : Nat, i ≤ l.length ∧ s = .int .i64 i ∧ Hid (OutAt wr w0.heap.size bo g (keepsL (diffTo l was i) out)) ∧ Hid (Stay (W.alloc (.cells #[.slice a0 l.length c0] 79)) wr g) ∧ Hid (Below w0.heap.size (W.alloc (.cells #[.slice a0 l.length c0] 79)) wr)) (fun s _ => l.length - (intOf s).toNat)
  case atStart => exact ⟨0, by omega, rfl, HO1, Stay.refl _ _, Below.refl _ _⟩
  case round =>
    clear hb0 HO1
    obtain ⟨i, hi, rfl, HOk, HSk, HBk⟩ := hrel
    have HBB := Lib.hid (HW.out.trans ((HZB.out _).trans HBk.out))
    have hneb : W.heap.size ≠ g := by have := HG.out; omega
    have hbx := (HX.out.stay HSk.out hneb).c0
    by_cases hlt : i < l.length
    · obtain ⟨b1, o1, rfl, _, hb1, x1⟩ := H1.out.get i hlt
      have j1 : (i : Int) < l.length := by omega
      rw [← (HBB.out.cell (p := ⟨b1, o1 + i, none⟩) hb1)] at x1
      obtain ⟨n, e1, hn, e2⟩ := domOf_in was l[i] (HV.out _ (List.getElem_mem hlt))
      obtain ⟨b2, o2, ao', cap', rfl, q2, l2, _, x2, x3⟩ := HD.out.get n hn
      have X20 := Lib.hid x2
      rw [← HBB.out.cell (p := ⟨b2, o2 + n, none⟩) l2] at x2
      have hl4 := HM.out _ (List.getElem_mem hn)
      have j3 : (n : Int) < was.length := by omega
      have CS := Lib.hid (size_c _ was[n] wr (x3.below HBB.out) hl4)
      have e1' : l.getD i 0 = (n : Int) := by rw [getD_atO hlt, e1]
      have e2' : domOf was (l.getD i 0) = was[n] := by rw [getD_atO hlt, e2]
      rw [e1] at x1
      have S0 := Lib.hid (diffTo_snoc l was i)
      by_cases hs : sizeL (norm was[n]) = 1
      · have SA : Hid (∀ m, diffAt l was i (m + 1) = diffAt l was i m ++ (if m = i then [] else [(l.getD m 0, complL was[n])])) := fun m => by
          have := diffAt_snoc l was i m (by rw [e2']; exact hs)
          rw [e2'] at this; exact this
        have S1 : Hid (diffAt l was i 0 = []) := by show _ = _; unfold diffAt; split <;> rfl
        have CC : Hid (∀ W1, Below w0.heap.size w0 W1 → Calls Tryz.prog 137 #[.slice ao' was[n].length cap'] W1 (RetR (complL was[n]) W1)) := fun W1 h => compl_c _ was[n] W1 (x3.below h) hl4
        have hcl : (complL was[n]).length ≤ 201 := canon_len _
        rw [hs] at CS
        have HCL := Lib.hid hcl
        clear e1 e2 e1' e2' x3 hs hcl
        generalize complL was[n] = cm at *
        generalize was[n].length = wl at *
        obtain ⟨wo, hwo⟩ : ∃ wo : World, wo = wr := ⟨_, rfl⟩
        subst hwo
        go_wp2_with (go_at_call 138; (with_reducible refine CS.out.mono ?_); rintro e W1 ⟨rfl, b1'⟩; have HO1 := Lib.hid (HOk.out.below b1'); have HS1 := Lib.hid (HSk.out.trans (Stay.of_below b1')); have HB1 := Lib.hid (HBk.out.trans (b1'.mono HBB.out.size)); have hbx1 := (HX.out.stay HS1.out hneb).c0; have x21 := (b1'.cell (p := ⟨b2, o2 + n, none⟩) (Nat.lt_of_lt_of_le l2 HBB.out.size)).trans x2; clear b1')
        go_loopw [28] (fun s wi => ∃ m : Nat, m ≤ l.length ∧ s = .int .i64 m ∧ Hid (OutAt wi w0.heap.size bo g (keepsL (diffTo l was i ++ diffAt l was i m) out)) ∧ Hid (Stay (W.alloc (.cells #[.slice (some ⟨b1, o1, none⟩) l.length c0] 79)) wi g) ∧ Hid (Below w0.heap.size (W.alloc (.cells #[.slice (some ⟨b1, o1, none⟩) l.length c0] 79)) wi)) (fun s _ => l.length - (intOf s).toNat)
        case atStart => exact ⟨0, by omega, rfl, by rw [S1.out, List.append_nil]; exact HO1, HS1, HB1⟩
        case round =>
          clear HO1 HS1 HB1 hbx hbx1 x1 x2 x21 HBB HOk HSk HBk CS
          obtain ⟨m, hm, rfl, HOk, HSk, HBk⟩ := hrel
          have HBB := Lib.hid (HW.out.trans ((HZB.out _).trans HBk.out))
          have hbx := (HX.out.stay HSk.out hneb).c0
          by_cases hltm : m < l.length
          · obtain ⟨b5, o5, he5, _, hb5, x5⟩ := H1.out.get m hltm
            simp only [Option.some.injEq, Addr.mk.injEq, and_true] at he5
            obtain ⟨rfl, rfl⟩ := he5
            have j5 : (m : Int) < l.length := by omega
            rw [← (HBB.out.cell (p := ⟨b1, o1 + m, none⟩) hb5)] at x5
            obtain ⟨q, e5, hq, _⟩ := domOf_in was l[m] (HV.out _ (List.getElem_mem hltm))
            have SAm := Lib.hid (SA.out m)
            rw [getD_atO hltm, e5] at SAm
            rw [e5] at x5
            have x6 := (HBB.out.cell (p := ⟨b2, o2 + n, none⟩) l2).trans X20.out
            by_cases hmi : m = i
            · subst hmi
              rw [if_pos rfl, List.append_nil] at SAm
              have hne : ((m : Int) != m) = false := by simp
              go_wp2
              exact ⟨⟨m + 1, by omega, by go_num, by rw [SAm.out]; exact HOk, HSk, HBk⟩, by simp [intOf]; omega⟩
            · rw [if_neg hmi] at SAm
              have hne : ((m : Int) != i) = true := by simpa using (show ¬ (m : Int) = i by omega)
              have hmi' : ¬ (m : Int) = i := by omega
              have hks := keepsL_snoc (diffTo l was i ++ diffAt l was i m) ((q : Int), cm) out
              rw [List.append_assoc, ← SAm.out] at hks
              have HKS := Lib.hid hks
              have hkl : (keepsL (diffTo l was i ++ diffAt l was i m) out).length = was.length := by rw [keepsL_len]; exact E0.out
              have HKL := Lib.hid hkl
              clear hks hkl hmi
              go_wp2_with (first
                | (go_at_call 137; (with_reducible refine (CC.out _ HBB.out).mono ?_); rintro e W4 ⟨a4, c4, rfl, r4, b4⟩; have CK : Hid (Calls Tryz.prog 35 #[.int .i64 q, .slice a4 cm.length c4, .pointer (some ⟨bo, 0, none⟩)] W4 fun e W' => (∃ u, e = .returned u) ∧ OutAt W' w0.heap.size bo g (keepsL (diffTo l was i ++ diffAt l was i (m + 1)) out) ∧ Below w0.heap.size W4 W' ∧ Stay W4 W' g) := (by
                    rw [HKS.out]
                    exact keep_c w0.heap.size bo g q _ cm _ W4 (HOk.out.below b4) (by rw [HKL.out]; exact hq) r4 (by have := HCL.out; omega) (Nat.le_trans HBB.out.size b4.size) (by rw [HKL.out]; exact hdl)); have HS4 := Lib.hid (HSk.out.trans (Stay.of_below b4)); have HB4 := Lib.hid (HBk.out.trans (b4.mono HBB.out.size)); clear b4 r4)
                | (go_at_call 35; (with_reducible refine CK.out.mono ?_); rintro e W5 ⟨⟨u, rfl⟩, o5, b5, s5⟩; have O5 := Lib.hid o5; have B5 := Lib.hid (HB4.out.trans b5); have S5 := Lib.hid (HS4.out.trans s5); clear o5 b5 s5))
              exact ⟨⟨m + 1, by omega, by go_num, O5, S5, B5⟩, by simp [intOf]; omega⟩
          · obtain rfl : m = l.length := by omega
            rw [← S0.out] at HOk
            go_wp2
            exact ⟨⟨i + 1, by omega, by go_num, HOk, HSk, HBk⟩, by simp [intOf]; omega⟩
      · have hd0 : diffAt l was i l.length = [] := by
          unfold diffAt
          rw [if_neg (by rw [e2']; exact hs)]
        rw [hd0, List.append_nil] at S0
        have hsz : (sizeL (norm was[n]) == 1) = false := beqf hs
        clear hs hd0 e1 e2 e1' e2' x3
        generalize sizeL (norm was[n]) = sz at *
        generalize was[n].length = wl at *
        go_wp2_with (go_at_call 138; (with_reducible refine CS.out.mono ?_); rintro e W1 ⟨rfl, b1'⟩; have HO1 := Lib.hid (HOk.out.below b1'); have HS1 := Lib.hid (HSk.out.trans (Stay.of_below b1')); have HB1 := Lib.hid (HBk.out.trans (b1'.mono HBB.out.size)); clear b1')
        exact ⟨⟨i + 1, by omega, by go_num, by rw [S0.out]; exact HO1, HS1, HB1⟩, by simp [intOf]; omega⟩
    · obtain rfl : i = l.length := by omega
      go_wp2
      go_ret
      exact ⟨(HZB.out _).trans HBk.out, (Stay.of_below (HZ.out _)).trans HSk.out, .inl ⟨_, rfl, rfl, HOk.out⟩⟩
end Go.Proofs.YtajooiainglpmaaGreat
