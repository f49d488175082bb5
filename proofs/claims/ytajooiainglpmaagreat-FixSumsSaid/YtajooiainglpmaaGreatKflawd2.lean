/-
  FixSums, walked.
-/
import Derived.Test.YtajooiainglpmaaGreatKflawd1
import Derived.Test.YtajooiainglpmaaGreatKrlaw1
namespace Go.Proofs.YtajooiainglpmaaGreat
open Go.RowKit

theorem apart_far' {x v : Value} {N g n c : Nat} (h : Apart x v) (hx : ∀ b, x.ownBlock = some b → b < N) (hg : v.ownBlock = some g ∨ N ≤ g) : Apart x (.slice (some ⟨g, 0, none⟩) n c) := fun b hb he => by
  have hb' : g = b := by simpa [Value.ownBlock] using he
  subst hb'
  rcases hg with h1 | h1
  · exact h g hb h1
  · have := hx g hb; omega
theorem TwoL.kept' {w w' : World} {B : Nat} {o1 o2 v : Value} {ds : Ds} {ys : List Int} {us : List Value} (h : TwoL w B o1 o2 ds ys us) (hk : KeepsBut w w' v) (h1 : Apart o1 v) (h2 : Apart o2 v) (hs : ∀ j, (hj : j < ds.length) → ∃ u, us[j]? = some u ∧ (ds[j] ≠ [] → Apart u v)) :
    TwoL w' B o1 o2 ds ys us :=
  ⟨⟨h.app.1, own_kept h.app.2.1 hk h1, fun j hj => by
    obtain ⟨u, e, r, c⟩ := h.app.2.2 j hj
    obtain ⟨u', e', c'⟩ := hs j hj
    rw [e] at e'; cases e'
    exact ⟨u, e, r.keptBut hk c', c⟩⟩, own_kept h.own hk h2, h.ap, h.aps⟩
theorem TwoL.setSlice {w : World} {B : Nat} {o1 o2 : Value} {ds : Ds} {ys : List Int} {us : List Value} (h : TwoL w B o1 o2 ds ys us) {a : Addr} (ha : a.block < B) {ao : Option Addr} {n c : Nat} (hs : w.cell? a = some (.slice ao n c)) (x : Value) : TwoL (w.setCell a x) B o1 o2 ds ys us :=
  ⟨⟨h.app.1, own_setCell h.app.2.1 ha x, fun j hj => by obtain ⟨u, e, r, c'⟩ := h.app.2.2 j hj; exact ⟨u, e, r.setSlice hs x, c'⟩⟩, own_setCell h.own ha x, h.ap, h.aps⟩
theorem RetO.some2 {w w' : World} {e : Ending} {r : Ds} {n : Nat} (h : RetO (some r) w e w') (hl : r.length = n) : ∃ ao cap, e = .returned (.tuple #[.slice ao n cap, .bool true]) ∧ DsAt w' (.slice ao n cap) r ∧ Below w.heap.size w w' := by
  obtain ⟨hb, ⟨_, ao, cap, h1, h2, h3⟩ | ⟨h1, _⟩⟩ := h
  · have h1 := Option.some.inj h1
    subst h1
    rw [hl] at h2 h3
    exact ⟨ao, cap, h2, h3, hb⟩
  · cases h1
/-- a sum in the making: its box, its two lists, the sets -/
structure SumSt (W : World) (B LB : Nat) (ca : Option Addr) (cc : Nat) (va : Option Addr) (vc : Nat) (dv : Value) (zs ys : List Int) (ds : Ds) (us : List Value) (t : Int) : Prop where
  two : TwoL W B dv (.slice va ys.length vc) ds ys us
  co : W.ownsRow B 3 1 (.slice ca zs.length cc) zs.length (zs.map (Value.int .i64))
  a1 : Apart (.slice ca zs.length cc) (.slice va ys.length vc)
  a2 : Apart dv (.slice ca zs.length cc)
  a3 : ∀ j, (hj : j < ds.length) → ∃ u, us[j]? = some u ∧ (ds[j] ≠ [] → Apart u (.slice ca zs.length cc))
  box : BoxL W LB [.slice ca zs.length cc, .slice va ys.length vc, .int .i64 1, .int .i64 t]
  lb : LB < B
  B : B ≤ W.heap.size
theorem Apart.len {x : Value} {a : Option Addr} {n m c d : Nat} (h : Apart x (.slice a n c)) : Apart x (.slice a m d) := fun b hb he => h b hb (by
  cases a with
  | none => simp [Value.ownBlock] at he
  | some a => simpa [Value.ownBlock] using he)
theorem SumSt.blk {W : World} {B LB : Nat} {ca : Option Addr} {cc : Nat} {va : Option Addr} {vc : Nat} {dv : Value} {zs ys : List Int} {ds : Ds} {us : List Value} {t : Int} (h : SumSt W B LB ca cc va vc dv zs ys ds us t) : ∀ j, (hj : j < ds.length) → ∀ u, us[j]? = some u → ds[j] ≠ [] → ∀ b, u.ownBlock = some b → b < W.heap.size := fun j hj u hu hne => by
  obtain ⟨u', e, r, _⟩ := h.two.app.2.2 j hj
  rw [hu] at e; cases e
  exact r.blk hne
/-- a coefficient more -/
theorem SumSt.coef {W W1 : World} {B LB : Nat} {ca : Option Addr} {cc : Nat} {va : Option Addr} {vc : Nat} {dv : Value} {zs ys : List Int} {ds : Ds} {us : List Value} {t : Int} (h : SumSt W B LB ca cc va vc dv zs ys ds us t) {z : Int} {g c : Nat}
    (ow : W1.ownsRow B 3 1 (.slice (some ⟨g, 0, none⟩) (zs.length + 1) c) (zs.length + 1) (zs.map (Value.int .i64) ++ [.int .i64 z])) (bw : Below B W W1) (kw : KeepsBut W W1 (.slice ca zs.length cc)) (gw : (Value.slice ca zs.length cc).ownBlock = some g ∨ W.heap.size ≤ g) :
    SumSt (W1.setCell ⟨LB, 0, none⟩ (.slice (some ⟨g, 0, none⟩) (zs.length + 1) c)) B LB (some ⟨g, 0, none⟩) c va vc dv (zs ++ [z]) ys ds us t := by
  have hl : (zs ++ [z]).length = zs.length + 1 := by simp
  have hb1 := h.box.below bw h.lb
  have hc := (hb1.get 0 rfl).1
  have two1 := (h.two.kept' kw h.a2 h.a1.symm h.a3).setSlice (a := ⟨LB, 0, none⟩) h.lb hc (.slice (some ⟨g, 0, none⟩) (zs.length + 1) c)
  refine ⟨two1, ?_, ?_, ?_, fun j hj => ?_, ?_, h.lb, ?_⟩
  · rw [hl, List.map_append]; exact own_setCell ow h.lb _
  · rw [hl]; exact (apart_far' h.a1.symm (fun b hb => (h.two.own.lt b hb).2) gw).symm
  · rw [hl]; exact apart_far' h.a2 (fun b hb => (h.two.app.2.1.lt b hb).2) gw
  · obtain ⟨u, e, c'⟩ := h.a3 j hj
    exact ⟨u, e, fun hne => by rw [hl]; exact apart_far' (c' hne) (h.blk j hj u e hne) gw⟩
  · rw [hl]; exact hb1.set 0 (by simp) _
  · have := bw.size; have := h.B; simp [World.setCell]; omega
/-- a variable more -/
theorem SumSt.var {W W1 : World} {B LB : Nat} {ca : Option Addr} {cc : Nat} {va : Option Addr} {vc : Nat} {dv : Value} {zs ys : List Int} {ds : Ds} {us : List Value} {t : Int} (h : SumSt W B LB ca cc va vc dv zs ys ds us t) {z : Int} {g c : Nat}
    (ow : W1.ownsRow B 3 1 (.slice (some ⟨g, 0, none⟩) (ys.length + 1) c) (ys.length + 1) (ys.map (Value.int .i64) ++ [.int .i64 z])) (bw : Below B W W1) (kw : KeepsBut W W1 (.slice va ys.length vc)) (gw : (Value.slice va ys.length vc).ownBlock = some g ∨ W.heap.size ≤ g) :
    SumSt (W1.setCell ⟨LB, 1, none⟩ (.slice (some ⟨g, 0, none⟩) (ys.length + 1) c)) B LB ca cc (some ⟨g, 0, none⟩) c dv zs (ys ++ [z]) ds us t := by
  have hl : (ys ++ [z]).length = ys.length + 1 := by simp
  have hb1 := h.box.below bw h.lb
  have hc := (hb1.get 1 rfl).1
  have two1 := (h.two.ints z ow kw gw).setSlice (a := ⟨LB, 1, none⟩) h.lb hc (.slice (some ⟨g, 0, none⟩) (ys.length + 1) c)
  refine ⟨?_, own_setCell (own_kept h.co kw h.a1) h.lb _, ?_, h.a2, h.a3, ?_, h.lb, ?_⟩
  · rw [hl]; exact two1
  · rw [hl]; exact apart_far' h.a1 (fun b hb => (h.co.lt b hb).2) gw
  · rw [hl]; exact hb1.set 1 (by simp) _
  · have := bw.size; have := h.B; simp [World.setCell]; omega
/-- a set more -/
theorem SumSt.dom {W W1 : World} {B LB : Nat} {ca : Option Addr} {cc : Nat} {va : Option Addr} {vc : Nat} {dv : Value} {zs ys : List Int} {ds : Ds} {us : List Value} {t : Int} (h : SumSt W B LB ca cc va vc dv zs ys ds us t) {x y : Int} {g c : Nat} {T : TypeId}
    (ow : W1.ownsRow B 22 1 (.slice (some ⟨g, 0, none⟩) (ds.length + 1) c) (ds.length + 1) (us ++ [.slice (some ⟨W.heap.size, 0, none⟩) 1 1])) (bw : Below B (W.alloc (.cells #[.int .i64 x, .int .i64 y] T)) W1) (kw : KeepsBut (W.alloc (.cells #[.int .i64 x, .int .i64 y] T)) W1 dv) (gw : dv.ownBlock = some g ∨ (W.alloc (.cells #[.int .i64 x, .int .i64 y] T)).heap.size ≤ g) :
    SumSt W1 B LB ca cc va vc (.slice (some ⟨g, 0, none⟩) (ds.length + 1) c) zs ys (ds ++ [[(x, y)]]) (us ++ [.slice (some ⟨W.heap.size, 0, none⟩) 1 1]) t := by
  have hz : Below W.heap.size W (W.alloc (.cells #[.int .i64 x, .int .i64 y] T)) := (Below.refl _ _).alloc (Nat.le_refl _) _
  have hB := h.B
  have hnew : ∀ v : Value, (∀ b, v.ownBlock = some b → b < W.heap.size) → Apart (.slice (some ⟨W.heap.size, 0, none⟩) 1 1) v := fun v hv b hb he => by
    have h1 : W.heap.size = b := by simpa [Value.ownBlock] using hb
    have := hv b he; omega
  have hr : RgAt (W.alloc (.cells #[.int .i64 x, .int .i64 y] T)) (.slice (some ⟨W.heap.size, 0, none⟩) 1 1) [(x, y)] := by
    refine ⟨rfl, some ⟨W.heap.size, 0, none⟩, 1, rfl, Nat.le_refl _, by decide, (fun h => by cases h), fun _ => ⟨W.heap.size, 0, rfl, by simp, fun j hj => ?_⟩⟩
    have hj' : j < 2 := hj
    rcases (show j = 0 ∨ j = 1 by omega) with rfl | rfl
    · simp; rfl
    · simp; rfl
  have hdv : ∀ b, dv.ownBlock = some b → b < W.heap.size := fun b hb => (h.two.app.2.1.lt b hb).2
  have hvv : ∀ b, (Value.slice va ys.length vc).ownBlock = some b → b < W.heap.size := fun b hb => (h.two.own.lt b hb).2
  have hcv : ∀ b, (Value.slice ca zs.length cc).ownBlock = some b → b < W.heap.size := fun b hb => (h.co.lt b hb).2
  have two1 := (h.two.below hz).sets hr (fun _ => hnew dv hdv) (fun _ => hnew _ hvv) ow kw gw
  have hl1 := h.two.app.1
  refine ⟨two1, own_kept (own_below h.co hz) kw h.a2.symm, h.a1, ?_, fun j hj => ?_, ?_, h.lb, ?_⟩
  · exact (apart_far' h.a2.symm hcv (gw.imp id (fun h1 => by simp at h1; omega))).symm
  · rw [List.length_append, List.length_singleton] at hj
    by_cases hjl : j < ds.length
    · obtain ⟨u', e', c'⟩ := h.a3 j hjl
      refine ⟨u', by rw [List.getElem?_append_left (by rw [hl1]; exact hjl)]; exact e', ?_⟩
      rw [List.getElem_append_left hjl]; exact c'
    · obtain rfl : j = ds.length := by omega
      refine ⟨.slice (some ⟨W.heap.size, 0, none⟩) 1 1, by rw [List.getElem?_append_right (by rw [hl1]; exact Nat.le_refl _), hl1]; simp, fun _ => hnew _ hcv⟩
  · exact h.box.below ((hz.mono hB).trans bw) h.lb
  · have := bw.size
    have : (W.alloc (.cells #[.int .i64 x, .int .i64 y] T)).heap.size = W.heap.size + 1 := by simp
    omega
theorem PsAt.lit1 {w : World} {p : PL} {va vb vv : Value} (h0 : IsAt w va p.coef) (h1 : IsAt w vb p.vars) (h2 : IsAt w vv p.vs) (T : TypeId) : PsAt (w.alloc (.cells #[.int .i64 p.kind, va, vb, .int .i64 p.rel, .int .i64 p.c, .int .i64 p.x, .int .i64 p.y, .int .i64 p.z, vv] T)) (.slice (some ⟨w.heap.size, 0, none⟩) 1 1) [p] := by
  have B := BoxL.mk' w #[.int .i64 p.kind, va, vb, .int .i64 p.rel, .int .i64 p.c, .int .i64 p.x, .int .i64 p.y, .int .i64 p.z, vv] T
  have hz : Below w.heap.size w (w.alloc (.cells #[.int .i64 p.kind, va, vb, .int .i64 p.rel, .int .i64 p.c, .int .i64 p.x, .int .i64 p.y, .int .i64 p.z, vv] T)) := (Below.refl _ _).alloc (Nat.le_refl _) _
  refine ⟨_, 1, rfl, Nat.le_refl _, by decide, fun _ => ⟨w.heap.size, 0, rfl, by simp, fun j hj => ?_⟩⟩
  obtain rfl : j = 0 := by simpa using hj
  exact ⟨va, vb, vv, ⟨(B.get 0 rfl).1, (B.get 1 rfl).1, (B.get 2 rfl).1, (B.get 3 rfl).1, (B.get 4 rfl).1, (B.get 5 rfl).1, (B.get 6 rfl).1, (B.get 7 rfl).1, (B.get 8 rfl).1⟩, h0.below hz, h1.below hz, h2.below hz⟩
theorem sum_fine {n : Nat} {t : Int} {ds : Ds} (hn : 1 ≤ n ∧ n ≤ 6) (ht : 0 ≤ t ∧ t < 40) (hl : ds.length = n) (hd : ∀ d ∈ ds, d.length ≤ 4096) : (sumPL n t).Fine ds :=
  ⟨.inl rfl, fun _ => ⟨⟨by simp [sumPL], by simp [sumPL]; omega, fun c hc => by simp [sumPL] at hc; omega, fun v hv => by
    simp [sumPL] at hv
    obtain ⟨j, hj, rfl⟩ := hv
    simp; omega, hd⟩, .inl rfl, by simp [sumPL]; omega, fun z hz => by simp [sumPL] at hz; omega, by
    show ((List.range n).map Int.ofNat).Nodup
    exact List.pairwise_map.2 (List.nodup_range.imp fun {a b} hab e => hab (by injection e))⟩, (fun h => by cases h), fun v hv => by rw [hl]; exact sum_good.vars v hv⟩
theorem sum_fixIn {n : Nat} {t : Int} (hn : 1 ≤ n ∧ n ≤ 6) (ht : 0 ≤ t ∧ t < 40) : FixIn (List.replicate n [(0, 50)]) [sumPL n t] :=
  ⟨fun p hp => by rw [List.mem_singleton.1 hp]; exact sum_fine hn ht (by simp) (fun d hd => by rw [List.eq_of_mem_replicate hd]; simp), fun p hp => by
    rw [List.mem_singleton.1 hp]
    exact ⟨by simp [sumPL]; omega, by simp [sumPL]; omega, by simp [sumPL]⟩, by simp; omega, fun d hd => by rw [List.eq_of_mem_replicate hd]; simp, by simp⟩
set_option maxRecDepth 100000 in
set_option maxHeartbeats 6400000 in
theorem fixSums_any (z0 z1 : Int) (w : World) (h0 : 0 ≤ z0 ∧ z0 ≤ 255) (h1 : 0 ≤ z1 ∧ z1 ≤ 255) :
    Calls Tryz.prog 5 #[.int .u8 z0, .int .u8 z1] w fun e w' => e = .returned (.bool true) ∧ Below w.heap.size w w' := by
  obtain ⟨i0, hi, hz0, hz1, hz2⟩ := info_parts Tryz.infoInt
  obtain ⟨i5, ki, kz0, kz1, kz2⟩ := info_parts Tryz.infoRgs
  obtain ⟨m0, m1⟩ : 0 ≤ z0 % 6 ∧ z0 % 6 < 6 := ⟨Int.emod_nonneg _ (by decide), Int.emod_lt_of_pos _ (by decide)⟩
  obtain ⟨t1, t2⟩ : 0 ≤ z1.tmod 40 ∧ z1.tmod 40 < 40 := ⟨Int.tmod_nonneg _ h1.1, Int.tmod_lt_of_pos z1 (by decide)⟩
  have ht : Hid (0 ≤ z1.tmod 40 ∧ z1.tmod 40 < 40) := ⟨t1, t2⟩
  obtain ⟨n, hn⟩ : ∃ n : Nat, 1 + z0 % 6 = (n : Int) := Int.eq_ofNat_of_zero_le (by omega)
  have HN := Lib.hid hn
  have hnb : 1 ≤ n ∧ n ≤ 6 := by omega
  generalize hq1 : z1.tmod 40 = t at *
  clear hn
  obtain ⟨LB, hLB⟩ : ∃ LB, LB = w.heap.size := ⟨_, rfl⟩
  have HLB := Lib.hid hLB.symm
  clear hLB
  go_enter Tryz.func5, Tryz.ntmps5
  go_wp2
  rw [HN.out, HLB.out]
  clear m0 m1 hq1
  obtain ⟨hn1, hn6⟩ := hnb
  go_loopw [8, 9] (fun o s wr => ∃ (i : Nat) (ca : Option Addr) (cc : Nat) (va : Option Addr) (vc : Nat) (us : List Value), i ≤ n ∧ s = .int .i64 i ∧ Hid (SumSt wr (LB + 1) LB ca cc va vc o (List.replicate i 1) ((List.range i).map Int.ofNat) (List.replicate i [(0, 50)]) us t) ∧ Hid (Below LB w wr)) (fun _ s _ => n - (intOf s).toNat)
  case atStart =>
    have hs : (w.alloc (.cells #[.slice none 0 0, .slice none 0 0, .int .i64 1, .int .i64 t] 28)).heap.size = LB + 1 := by simp [HLB.out]
    have hB := BoxL.mk' w #[.slice none 0 0, .slice none 0 0, .int .i64 1, .int .i64 t] 28
    rw [HLB.out] at hB
    have hz : Below (LB + 1) (w.alloc (.cells #[.slice none 0 0, .slice none 0 0, .int .i64 1, .int .i64 t] 28)) ((w.alloc (.cells #[.slice none 0 0, .slice none 0 0, .int .i64 1, .int .i64 t] 28)).alloc (.cells #[] 22)) := (Below.refl _ _).alloc (by omega) _
    have hmd := World.ownsRow_made (w.alloc (.cells #[.slice none 0 0, .slice none 0 0, .int .i64 1, .int .i64 t] 28)) #[] 0 (base := (w.alloc (.cells #[.slice none 0 0, .slice none 0 0, .int .i64 1, .int .i64 t] 28)).heap.size) (e := 22) (size := 1) (Nat.le_refl _) (by decide) rfl
    rw [hs] at hmd
    refine ⟨0, none, 0, none, 0, [], by omega, rfl, Lib.hid ⟨⟨DsApp.nil hmd, World.ownsRow_nil _ _ _ _, fun b _ he => by simp [Value.ownBlock] at he, fun j hj => by simp at hj⟩, World.ownsRow_nil _ _ _ _, fun b hb => by simp [Value.ownBlock] at hb, fun b _ he => by simp [Value.ownBlock] at he, fun j hj => by simp at hj, hB.below hz (by omega), by omega, by simp [HLB.out]⟩, Lib.hid ?_⟩
    rw [← HLB.out]
    exact ((Below.refl _ _).alloc (Nat.le_refl _) _).alloc (by simp) _
  case round =>
    obtain ⟨i, ca, cc, va, vc, us, hin, rfl, HS, HBw⟩ := hrel
    obtain ⟨zs, hzs⟩ : ∃ zs : List Int, zs = List.replicate i 1 := ⟨_, rfl⟩
    obtain ⟨ys, hys⟩ : ∃ ys : List Int, ys = (List.range i).map Int.ofNat := ⟨_, rfl⟩
    obtain ⟨ds, hds⟩ : ∃ ds : Ds, ds = List.replicate i [((0 : Int), (50 : Int))] := ⟨_, rfl⟩
    rw [← hzs, ← hys, ← hds] at HS
    have hzl : zs.length ≤ 6 := by rw [hzs]; simp; omega
    have hyl : ys.length ≤ 6 := by rw [hys]; simp; omega
    have hdl : ds.length ≤ 6 := by rw [hds]; simp; omega
    have hB := HS.out.B
    obtain ⟨da, dc, hdv, _⟩ := (SlAt.of_own HS.out.two.app.2.1).shape
    subst hdv
    obtain ⟨l0, f0⟩ := HS.out.box.get 0 rfl
    obtain ⟨l1, f1⟩ := HS.out.box.get 1 rfl
    have hsz := HBw.out.size
    by_cases hlt : i < n
    · have j1 : (i : Int) < n := by omega
      have HZ1 : Hid (zs ++ [1] = List.replicate (i + 1) 1) := by show _ = _; rw [hzs, List.replicate_succ', ]
      have HY1 : Hid (ys ++ [(i : Int)] = (List.range (i + 1)).map Int.ofNat) := by show _ = _; rw [hys, List.range_succ, List.map_append]; rfl
      have HD1 : Hid (ds ++ [[(0, 50)]] = List.replicate (i + 1) [(0, 50)]) := by show _ = _; rw [hds, List.replicate_succ']
      have HCO := Lib.hid HS.out.co
      clear hzs hys hds f0
      go_wp2_with (first
        | (at_builtin; refine wpList_append1L rfl (.tmp 33) (.tmp 34) 26 rfl (LB + 1) 3 i0 (.int .i64 0) 8 Tryz.underlying26 hi hz0 hz1 hz2 rfl _ _ _ rfl HCO.out _ rfl rfl (by omega) hB ?_; intro g2 cap2 w2 ow2 bw2 kw2 gw2; have S1 := Lib.hid (HS.out.coef ow2 bw2 kw2 gw2); obtain ⟨p0, p1⟩ := (HS.out.box.below bw2 (Nat.lt_succ_self _)).get 0 rfl; have B1 := Lib.hid (((HBw.out.trans (bw2.mono (Nat.le_succ _)))).setCell (p := ⟨LB, 0, none⟩) (Nat.le_refl _) (.slice (some ⟨g2, 0, none⟩) (zs.length + 1) cap2)); obtain ⟨q0, q1⟩ := S1.out.box.get 1 rfl; have HVO := Lib.hid S1.out.two.own; have hB1 := S1.out.B; clear ow2 bw2 kw2 gw2)
        | (at_builtin; refine wpList_append1L rfl (.tmp 38) (.tmp 40) 26 rfl (LB + 1) 3 i0 (.int .i64 0) 8 Tryz.underlying26 hi hz0 hz1 hz2 rfl _ _ _ rfl HVO.out _ (by first | rfl | (show Value.slice _ _ _ = _; simp [World.setCell])) rfl (by omega) hB1 ?_; intro g3 cap3 w3 ow3 bw3 kw3 gw3; have S2 := Lib.hid (S1.out.var ow3 bw3 kw3 gw3); obtain ⟨p2, p3⟩ := (S1.out.box.below bw3 (Nat.lt_succ_self _)).get 1 rfl; have B2 := Lib.hid (((B1.out.trans (bw3.mono (Nat.le_succ _)))).setCell (p := ⟨LB, 1, none⟩) (Nat.le_refl _) (.slice (some ⟨g3, 0, none⟩) (ys.length + 1) cap3)); have HDO := Lib.hid (own_below S2.out.two.app.2.1 ((Below.refl _ _).alloc (Nat.le_refl _) (.cells #[.int .i64 0, .int .i64 50] 32))); have hB2 := S2.out.B; clear ow3 bw3 kw3 gw3)
        | (at_builtin; refine wpList_append1L rfl (.tmp 43) (.tmp 46) 33 rfl (LB + 1) 22 i5 (.slice none 0 0) 24 Tryz.underlying33 ki kz0 kz1 kz2 rfl _ _ _ rfl HDO.out _ (by first | rfl | (show Value.slice _ _ _ = _; simp [World.setCell])) rfl (by omega) (Nat.le_trans hB2 (by simp)) ?_; intro g4 cap4 w4 ow4 bw4 kw4 gw4))
      have hsz3 : (w3.setCell ⟨LB, 1, none⟩ (.slice (some ⟨g3, 0, none⟩) (ys.length + 1) cap3)).heap.size = w3.heap.size := by simp [World.setCell]
      have S3 := Lib.hid (S2.out.dom (by rw [hsz3]; exact ow4) bw4 kw4 gw4)
      have hB3 : LB ≤ (w3.setCell ⟨LB, 1, none⟩ (.slice (some ⟨g3, 0, none⟩) (ys.length + 1) cap3)).heap.size := Nat.le_trans (Nat.le_succ _) hB2
      refine ⟨⟨i + 1, some ⟨g2, 0, none⟩, cap2, some ⟨g3, 0, none⟩, cap3, us ++ [.slice (some ⟨(w3.setCell ⟨LB, 1, none⟩ (.slice (some ⟨g3, 0, none⟩) (ys.length + 1) cap3)).heap.size, 0, none⟩) 1 1], by omega, by go_num, ?_, Lib.hid (B2.out.trans (((Below.refl _ _).alloc hB3 _).trans (bw4.mono (Nat.le_succ _))))⟩, by simp [intOf]; omega⟩
      rw [← HZ1.out, ← HY1.out, ← HD1.out]
      exact S3
    · obtain rfl : i = n := by omega
      obtain ⟨l2, f2⟩ := HS.out.box.get 2 rfl
      obtain ⟨l3, f3⟩ := HS.out.box.get 3 rfl
      have hdn : ds.length = i := by rw [hds]; simp
      have HDA : Hid (DsAt wr (.slice da ds.length dc) ds) := HS.out.two.app.own.at
      rw [hdn] at HDA
      have HIC : Hid (IsAt wr (.slice ca zs.length cc) (sumPL i t).coef) := by
        have h := SlAt.of_own HS.out.co
        rw [hzs] at h ⊢
        exact h
      have HIV : Hid (IsAt wr (.slice va ys.length vc) (sumPL i t).vars) := by
        have h := SlAt.of_own HS.out.two.own
        rw [hys] at h ⊢
        exact h
      have HP0 : Hid (∀ T, PsAt (wr.alloc (.cells #[.int .i64 1, .slice ca zs.length cc, .slice va ys.length vc, .int .i64 1, .int .i64 t, .int .i64 0, .int .i64 0, .int .i64 0, .slice none 0 0] T)) (.slice (some ⟨wr.heap.size, 0, none⟩) 1 1) [sumPL i t]) := fun T => PsAt.lit1 (p := sumPL i t) HIC.out HIV.out SlAt.nil T
      have HZ0 : Hid (∀ T, Below wr.heap.size wr (wr.alloc (.cells #[.int .i64 1, .slice ca zs.length cc, .slice va ys.length vc, .int .i64 1, .int .i64 t, .int .i64 0, .int .i64 0, .int .i64 0, .slice none 0 0] T))) := fun T => (Below.refl _ _).alloc (Nat.le_refl _) _
      have hFI := sum_fixIn ⟨hn1, hn6⟩ ht.out
      obtain ⟨R, hR⟩ := fixOf_exists (ps := [sumPL i t]) (D := List.replicate i [(0, 50)]) (fun p hp => (hFI.fine p hp).good)
      obtain rfl := sums_fix ⟨hn1, hn6⟩ ht.out hR
      obtain ⟨L, hL⟩ : ∃ L : Int, L = if i = 1 then t else 0 := ⟨_, rfl⟩
      rw [← hL] at hR
      have HL1 : Hid (i = 1 → L = t) := fun h => by rw [hL, if_pos h]
      have HL0 : Hid (¬ i = 1 → L = 0) := fun h => by rw [hL, if_neg h]
      rw [hds] at HDA
      have hrl : (List.replicate i [(L, t)]).length = i := by simp
      have CF : Hid (∀ W, Below (wr.heap.size + 1) (wr.alloc (.cells #[.int .i64 1, .slice ca zs.length cc, .slice va ys.length vc, .int .i64 1, .int .i64 t, .int .i64 0, .int .i64 0, .int .i64 0, .slice none 0 0] 30)) W → Calls Tryz.prog 22 #[.slice da i dc, .slice (some ⟨wr.heap.size, 0, none⟩) 1 1] W fun e W' => ∃ ao cap, e = .returned (.tuple #[.slice ao i cap, .bool true]) ∧ DsAt W' (.slice ao i cap) (List.replicate i [(L, t)]) ∧ Below W.heap.size W W') := fun W h => by
        have hw : (wr.alloc (.cells #[.int .i64 1, .slice ca zs.length cc, .slice va ys.length vc, .int .i64 1, .int .i64 t, .int .i64 0, .int .i64 0, .int .i64 0, .slice none 0 0] 30)).heap.size = wr.heap.size + 1 := by simp
        have h' := h
        rw [← hw] at h'
        exact (fix_r (HDA.out.below ((HZ0.out _).trans (h.mono (Nat.le_succ _)))) ((HP0.out _).below h') hFI hR).mono fun e W' hh => hh.some2 hrl
      have CG : Hid (∀ W, Below (wr.heap.size + 1) (wr.alloc (.cells #[.int .i64 1, .slice ca zs.length cc, .slice va ys.length vc, .int .i64 1, .int .i64 t, .int .i64 0, .int .i64 0, .int .i64 0, .slice none 0 0] 30)) W → Calls Tryz.prog 23 #[.slice da i dc, .slice (some ⟨wr.heap.size, 0, none⟩) 1 1] W fun e W' => ∃ ao cap, e = .returned (.tuple #[.slice ao i cap, .bool true]) ∧ DsAt W' (.slice ao i cap) (List.replicate i [(L, t)]) ∧ Below W.heap.size W W') := fun W h => by
        have hw : (wr.alloc (.cells #[.int .i64 1, .slice ca zs.length cc, .slice va ys.length vc, .int .i64 1, .int .i64 t, .int .i64 0, .int .i64 0, .int .i64 0, .slice none 0 0] 30)).heap.size = wr.heap.size + 1 := by simp
        have h' := h
        rw [← hw] at h'
        exact (refFix_r (HDA.out.below ((HZ0.out _).trans (h.mono (Nat.le_succ _)))) ((HP0.out _).below h') hFI hR).mono fun e W' hh => hh.some2 hrl
      have CS : Hid (∀ W u v, DsAt W u (List.replicate i [(L, t)]) → DsAt W v (List.replicate i [(L, t)]) → Calls Tryz.prog 24 #[u, v] W fun e W' => e = .returned (.bool true) ∧ Below W.heap.size W W') := fun W u v hu hv => (same17_c u v _ _ W hu hv (by simp; omega) (fun d hd => by rw [List.eq_of_mem_replicate hd]; simp)).mono fun e W' ⟨h1, h2⟩ => ⟨by rw [h1]; simp, h2⟩
      rw [hdn]
      have HBz : Hid (Below w.heap.size w (wr.alloc (.cells #[.int .i64 1, .slice ca zs.length cc, .slice va ys.length vc, .int .i64 1, .int .i64 t, .int .i64 0, .int .i64 0, .int .i64 0, .slice none 0 0] 30))) := by
        have h := HBw.out
        rw [← HLB.out] at h
        exact h.trans ((HZ0.out _).mono h.size)
      have HRW : Hid (Below (wr.heap.size + 1) (wr.alloc (.cells #[.int .i64 1, .slice ca zs.length cc, .slice va ys.length vc, .int .i64 1, .int .i64 t, .int .i64 0, .int .i64 0, .int .i64 0, .slice none 0 0] 30)) (wr.alloc (.cells #[.int .i64 1, .slice ca zs.length cc, .slice va ys.length vc, .int .i64 1, .int .i64 t, .int .i64 0, .int .i64 0, .int .i64 0, .slice none 0 0] 30))) := Below.refl _ _
      clear hR hFI hL hds hys hzs hdn hrl HDA HIC HIV HP0 HS hsz
      go_wp2_with (first
        | (go_at_call 22; (with_reducible refine (CF.out _ HRW.out).mono ?_); rintro e W3 ⟨a3, c3, rfl, d3, bb⟩; have D3 := Lib.hid d3; have P3 : Hid (Below (wr.heap.size + 1) (wr.alloc (.cells #[.int .i64 1, .slice ca zs.length cc, .slice va ys.length vc, .int .i64 1, .int .i64 t, .int .i64 0, .int .i64 0, .int .i64 0, .slice none 0 0] 30)) W3) := (bb.mono (by simp)); have B3 := Lib.hid (HBz.out.trans (bb.mono HBz.out.size)); clear bb d3)
        | (go_at_call 23; (with_reducible refine (CG.out _ P3.out).mono ?_); rintro e W4 ⟨a4, c4, rfl, d4, bb⟩; have D4 := Lib.hid d4; have D34 := Lib.hid (D3.out.below bb); have B4 := Lib.hid (B3.out.trans (bb.mono B3.out.size)); clear bb d4)
        | (go_at_call 24; (with_reducible refine (CS.out _ _ _ D34.out D4.out).mono ?_); rintro e W5 ⟨rfl, bb⟩; have D5 := Lib.hid (D34.out.below bb); have B5 := Lib.hid (B4.out.trans (bb.mono B4.out.size)); clear bb))
      clear CF CG CS HRW HBz P3 D3 D34 D4 B3 B4
      by_cases h1 : i = 1
      · have hLt := HL1.out h1
        subst hLt
        have he1 : ((i : Int) == 1) = true := by rw [h1]; rfl
        clear h1 HL0 HL1
        go_loopw [15] (fun s wr => ∃ k : Nat, k ≤ i ∧ s = .int .i64 k ∧ Hid (Below W5.heap.size W5 wr)) (fun s _ => i - (intOf s).toNat)
        case atStart => exact ⟨0, by omega, rfl, Lib.hid (Below.refl _ _)⟩
        case round =>
          obtain ⟨k, hk, rfl, HQ⟩ := hrel
          by_cases hlt : k < i
          · obtain ⟨b6, o6, a6', c6', rfl, q1, q2, hj1, hc1, hr1⟩ := D5.out.get k (by simp; omega)
            clear hj1
            rw [List.getElem_replicate] at hc1 hr1
            obtain ⟨b7, o7, c7, he7, _, q7, hc7⟩ := RgAt.at hr1 (Nat.succ_pos _)
            simp only [Value.slice.injEq, true_and] at he7
            obtain ⟨rfl, rfl⟩ := he7
            obtain ⟨y0, y1⟩ := hc7 0 (Nat.succ_pos _)
            have j2 : (k : Int) < i := by omega
            rw [← HQ.out.cell (p := ⟨b6, o6 + k, none⟩) q2] at hc1
            rw [← HQ.out.cell (p := ⟨b7, o7 + 0 * 2, none⟩) q7] at y0
            rw [← HQ.out.cell (p := ⟨b7, o7 + 0 * 2 + 1, none⟩) q7] at y1
            have hc1' : wr.cell? ⟨b6, o6 + k, none⟩ = some (.slice (some ⟨b7, o7, none⟩) 1 c6') := hc1
            have y0' : wr.cell? ⟨b7, o7, none⟩ = some (.int .i64 L) := y0
            have y1' : wr.cell? ⟨b7, o7 + 1, none⟩ = some (.int .i64 L) := y1
            clear hc1 y0 y1 hr1 hc7
            go_wp2
            exact ⟨⟨k + 1, by omega, by go_num, HQ⟩, by simp [intOf]; omega⟩
          · go_wp2
            go_ret
            exact ⟨rfl, B5.out.trans (HQ.out.mono B5.out.size)⟩
      · have hLt := HL0.out h1
        subst hLt
        have he1 : ((i : Int) == 1) = false := by simp; omega
        clear h1 HL0 HL1
        go_loopw [15] (fun s wr => ∃ k : Nat, k ≤ i ∧ s = .int .i64 k ∧ Hid (Below W5.heap.size W5 wr)) (fun s _ => i - (intOf s).toNat)
        case atStart => exact ⟨0, by omega, rfl, Lib.hid (Below.refl _ _)⟩
        case round =>
          obtain ⟨k, hk, rfl, HQ⟩ := hrel
          by_cases hlt : k < i
          · obtain ⟨b6, o6, a6', c6', rfl, q1, q2, hj1, hc1, hr1⟩ := D5.out.get k (by simp; omega)
            clear hj1
            rw [List.getElem_replicate] at hc1 hr1
            obtain ⟨b7, o7, c7, he7, _, q7, hc7⟩ := RgAt.at hr1 (Nat.succ_pos _)
            simp only [Value.slice.injEq, true_and] at he7
            obtain ⟨rfl, rfl⟩ := he7
            obtain ⟨y0, y1⟩ := hc7 0 (Nat.succ_pos _)
            have j2 : (k : Int) < i := by omega
            rw [← HQ.out.cell (p := ⟨b6, o6 + k, none⟩) q2] at hc1
            rw [← HQ.out.cell (p := ⟨b7, o7 + 0 * 2, none⟩) q7] at y0
            rw [← HQ.out.cell (p := ⟨b7, o7 + 0 * 2 + 1, none⟩) q7] at y1
            have hc1' : wr.cell? ⟨b6, o6 + k, none⟩ = some (.slice (some ⟨b7, o7, none⟩) 1 c6') := hc1
            have y0' : wr.cell? ⟨b7, o7, none⟩ = some (.int .i64 0) := y0
            have y1' : wr.cell? ⟨b7, o7 + 1, none⟩ = some (.int .i64 t) := y1
            clear hc1 y0 y1 hr1 hc7
            go_wp2
            exact ⟨⟨k + 1, by omega, by go_num, HQ⟩, by simp [intOf]; omega⟩
          · go_wp2
            go_ret
            exact ⟨rfl, B5.out.trans (HQ.out.mono B5.out.size)⟩
end Go.Proofs.YtajooiainglpmaaGreat
