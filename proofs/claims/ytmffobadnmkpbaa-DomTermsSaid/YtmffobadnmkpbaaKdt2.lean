/-
  dom.gather at two ends; dom.gather and dom.Of of any term, walked.
  coneyref14.end and coneyref14.Of, walked.
  What is known in the middle of dom.Term and coneyref14.Term: the term so far, in its box.
-/
import Derived.Test.YtmffobadnmkpbaaKdt1
import Derived.Test.YtmffobadnmkpbaaKdomrpa2
import Derived.Test.YtmffobadnmkpbaaKdomrpa1
import Derived.Deep.RegionHeld3
import Derived.BigRegion
import Derived.RegionTactic
namespace Go.Proofs.Ytmffobadnmkpbaa
open Go.RowKit

theorem end_cases (u : Tm) : (u.kind = 2 ∧ endT u = some u.num) ∨ (u.kind = 3 ∧ (u.name.toList == [105, 110, 102]) = true ∧ endT u = some (-200)) ∨ (u.kind = 3 ∧ (u.name.toList == [105, 110, 102]) = false ∧ (u.name.toList == [115, 117, 112]) = true ∧ endT u = some 200) ∨
    (u.kind = 3 ∧ (u.name.toList == [105, 110, 102]) = false ∧ (u.name.toList == [115, 117, 112]) = false ∧ endT u = none) ∨ ((u.kind == 2) = false ∧ (u.kind == 3) = false ∧ endT u = none) := by
  by_cases h2 : u.kind = 2
  · exact .inl ⟨h2, by simp [endT, h2]⟩
  by_cases h3 : u.kind = 3
  · by_cases h4 : u.name.toList = [105, 110, 102]
    · exact .inr (.inl ⟨h3, by simp [h4], by simp [endT, h3, h4, infS_list]⟩)
    by_cases h5 : u.name.toList = [115, 117, 112]
    · exact .inr (.inr (.inl ⟨h3, by simp [h5], by simp [h5], by simp [endT, h3, h5, infS_list, supS_list]⟩))
    · exact .inr (.inr (.inr (.inl ⟨h3, by simp [h4], by simp [h5], by simp [endT, h3, h4, h5, infS_list, supS_list]⟩)))
  · exact .inr (.inr (.inr (.inr ⟨by simpa using h2, by simpa using h3, by simp [endT, h2, h3]⟩)))
theorem gath_end {s : ByteArray} {x y : Tm} (h : s.toList ≠ orS.toList) : gath (.cmp s [x, y]) = if s.toList = dotS.toList then (match endT x, endT y with | some lo, some hi => some [(lo, hi)] | _, _ => none) else none := by
  simp only [gath, h, if_false] <;> rfl
theorem gath_none1 {s : ByteArray} {x y : Tm} (h : s.toList ≠ orS.toList) (hx : endT x = none) : gath (.cmp s [x, y]) = none := by
  rw [gath_end h, hx]; split <;> rfl
theorem gath_none2 {s : ByteArray} {x y : Tm} (h : s.toList ≠ orS.toList) (hy : endT y = none) : gath (.cmp s [x, y]) = none := by
  rw [gath_end h, hy]; split
  · cases endT x <;> rfl
  · rfl
theorem box2c {W : World} {b : Nat} {x0 x1 : Value} (h : BoxL W b [x0, x1]) : (W.cell? ⟨b, 0, none⟩ = some x0 ∧ W.cell? ⟨b, 1, none⟩ = some x1) ∧ W.frozen? ⟨b, 0, none⟩ = false ∧ W.frozen? ⟨b, 1, none⟩ = false := ⟨⟨(h.get 0 rfl).1, (h.get 1 rfl).1⟩, (h.get 0 rfl).2, (h.get 1 rfl).2⟩
/-- the array of the two ends, and what was there before -/
structure Ends (w V wr : World) (lo hi : Int) : Prop where
  box : BoxL wr (w.heap.size + 1) [.int .i64 lo, .int .i64 hi]
  bel : Below (w.heap.size + 1) V wr
theorem Ends.lt {w V wr : World} {lo hi : Int} (h : Ends w V wr lo hi) : w.heap.size + 1 < wr.heap.size := h.box.lt (by simp)
theorem Ends.al {w V wr : World} {lo hi : Int} (h : Ends w V wr lo hi) (o : Obj) : Ends w V (wr.alloc o) lo hi :=
  ⟨h.box.below ((Below.refl wr.heap.size wr).alloc (Nat.le_refl _) o) h.lt, h.bel.alloc (by have := h.lt; omega) o⟩
theorem Ends.s0 {w V wr : World} {lo hi : Int} (h : Ends w V wr lo hi) (z : Int) : Ends w V (wr.setCell ⟨w.heap.size + 1, 0, none⟩ (.int .i64 z)) z hi :=
  ⟨h.box.set 0 (by simp) _, h.bel.setCell (p := ⟨w.heap.size + 1, 0, none⟩) (Nat.le_refl _) _⟩
theorem Ends.s1 {w V wr : World} {lo hi : Int} (h : Ends w V wr lo hi) (z : Int) : Ends w V (wr.setCell ⟨w.heap.size + 1, 1, none⟩ (.int .i64 z)) lo z :=
  ⟨h.box.set 1 (by simp) _, h.bel.setCell (p := ⟨w.heap.size + 1, 1, none⟩) (Nat.le_refl _) _⟩
set_option maxRecDepth 100000 in
set_option maxHeartbeats 6400000 in
theorem gather_end (s : ByteArray) (x y : Tm) (va : Value) (w : World) (ht : TmAt (fun _ => True) w (.cmp s [x, y]) va) (hs : s.toList ≠ orS.toList) : Calls Try.prog 94 #[tmV (.cmp s [x, y]) va] w (RetG (.cmp s [x, y]) w) := by
  obtain ⟨ao, cc, rfl, _⟩ := ht.shape
  obtain ⟨b, off, p0, q0, p1, q1, rfl, cx, cy, tx, ty⟩ := pair_parts ht
  obtain ⟨V, hV⟩ : ∃ V, V = ((w.alloc (.cells #[.int .i64 4, .int .i64 0, .string s, .slice (some ⟨b, off, none⟩) 2 cc] 24)).alloc (.cells #[.int .i64 0, .int .i64 0] 139)) := ⟨_, rfl⟩
  have E0 : Hid (Ends w V V 0 0) := by
    refine ⟨?_, Below.refl _ _⟩
    have h := BoxL.mk' (w.alloc (.cells #[.int .i64 4, .int .i64 0, .string s, .slice (some ⟨b, off, none⟩) 2 cc] 24)) #[.int .i64 0, .int .i64 0] 139
    simp only [World.size_alloc] at h
    rw [hV]; exact h
  have BV : Hid (Below w.heap.size w V) := by rw [hV]; exact ((Below.refl _ _).alloc (Nat.le_refl _) _).alloc (by simp) _
  have KB : Hid (∀ W, Below (w.heap.size + 1) V W → Below w.heap.size w W ∧ W.cell? ⟨w.heap.size, 0, none⟩ = some (.int .i64 4) ∧ W.cell? ⟨w.heap.size, 1, none⟩ = some (.int .i64 0) ∧ W.cell? ⟨w.heap.size, 2, none⟩ = some (.string s) ∧ W.cell? ⟨w.heap.size, 3, none⟩ = some (.slice (some ⟨b, off, none⟩) 2 cc)) := fun W h => by
    refine ⟨BV.out.trans (h.mono (by omega)), ?_⟩
    have h2 : Below (w.heap.size + 1) (w.alloc (.cells #[.int .i64 4, .int .i64 0, .string s, .slice (some ⟨b, off, none⟩) 2 cc] 24)) V := by rw [hV]; exact (Below.refl _ _).alloc (by simp) _
    exact box_t w (.int .i64 4) (.int .i64 0) (.string s) (.slice (some ⟨b, off, none⟩) 2 cc) W (h2.trans h)
  have KX : Hid (∀ W, Below w.heap.size w W → CellsT W b off x (.slice p0 x.args.length q0) ∧ CellsT W b (off + 4) y (.slice p1 y.args.length q1)) := fun W h => ⟨cx.block (h.block _ cx.lt), cy.block (h.block _ cy.lt)⟩
  have HS := Lib.hid hs
  have hsb : (s.toList == [92, 47]) = false := by rw [← orS_list]; simpa using hs
  have hbw := cx.lt
  obtain ⟨k0, k1, k2, k3⟩ := (KB.out V (Below.refl _ _)).2
  show Calls _ _ #[.agg #[.int .i64 4, .int .i64 0, .string s, .slice (some ⟨b, off, none⟩) 2 cc]] _ _
  clear ht tx ty cy cx hs
  go_enter Try.func94, Try.ntmps94
  go_upto_region 10 with (fail)
  rw [← hV]
  clear hV
  go_wp2
  go_loopg [59] 2 (fun f i wr => ∃ (k : Nat) (lo hi : Int), k ≤ 2 ∧ i = .int .i64 k ∧ Hid (f = 2 - k) ∧ Hid (Ends w V wr lo hi) ∧ Hid (1 ≤ k → endT x = some lo) ∧ Hid (2 ≤ k → endT y = some hi))
  case atStart => exact ⟨0, 0, 0, by omega, rfl, rfl, E0, (fun h => absurd h (by omega) : _ → _), (fun h => absurd h (by omega) : _ → _)⟩
  case round =>
    obtain ⟨k, lo, hi, hk, rfl, HN, HE, HX, HY⟩ := hrel
    obtain ⟨hbw2, k0, k1, k2, k3⟩ := KB.out wr HE.out.bel
    have BW := Lib.hid hbw2
    have hlt := HE.out.lt
    obtain ⟨⟨z0, z1⟩, f0, f1⟩ := box2c HE.out.box
    have hbr : b < wr.heap.size := by omega
    clear hbw2
    rcases (by omega : k = 0 ∨ k = 1 ∨ k = 2) with rfl | rfl | rfl
    · obtain ⟨x0, x1, x2, x3⟩ := (KX.out wr BW.out).1
      have HD := Lib.hid (end_cases x)
      have HNO : Hid (endT x = none → gath (.cmp s [x, y]) = none) := gath_none1 HS.out
      obtain ⟨h1, he⟩ | ⟨h1, h2, he⟩ | ⟨h1, h2, h3, he⟩ | ⟨h1, h2, h3, he⟩ | ⟨h1, h2, he⟩ := HD.out
      · have HHE := Lib.hid he
        clear he
        rw [h1] at x0
        go_wp2
        go_roundg 1
        case measure => have := HN.out; omega
        case rel => first | exact ⟨1, x.num, hi, by omega, by go_num, rfl, ((HE.out.al _).s0 _), (fun _ => Hid.out HHE : _ → _), (fun h => absurd h (by omega) : _ → _)⟩ | exact ⟨1, x.num, hi, by omega, by go_num, rfl, ((HE.out.s0 _).al _), (fun _ => Hid.out HHE : _ → _), (fun h => absurd h (by omega) : _ → _)⟩
      · have HHE := Lib.hid he
        clear he
        rw [h1] at x0
        go_wp2
        go_roundg 1
        case measure => have := HN.out; omega
        case rel => first | exact ⟨1, (-200), hi, by omega, by go_num, rfl, ((HE.out.al _).s0 _), (fun _ => Hid.out HHE : _ → _), (fun h => absurd h (by omega) : _ → _)⟩ | exact ⟨1, (-200), hi, by omega, by go_num, rfl, ((HE.out.s0 _).al _), (fun _ => Hid.out HHE : _ → _), (fun h => absurd h (by omega) : _ → _)⟩
      · have HHE := Lib.hid he
        clear he
        rw [h1] at x0
        go_wp2
        go_roundg 1
        case measure => have := HN.out; omega
        case rel => first | exact ⟨1, 200, hi, by omega, by go_num, rfl, ((HE.out.al _).s0 _), (fun _ => Hid.out HHE : _ → _), (fun h => absurd h (by omega) : _ → _)⟩ | exact ⟨1, 200, hi, by omega, by go_num, rfl, ((HE.out.s0 _).al _), (fun _ => Hid.out HHE : _ → _), (fun h => absurd h (by omega) : _ → _)⟩
      · have HHE := Lib.hid (HNO.out he)
        clear he
        rw [h1] at x0
        go_wp2
        go_ret2
        exact retG_no HHE.out (BW.out.trans (((Below.refl _ _).alloc (Nat.le_refl _) _).mono BW.out.size))
      · have HHE := Lib.hid (HNO.out he)
        clear he
        go_wp2
        go_ret2
        exact retG_no HHE.out (BW.out.trans (((Below.refl _ _).alloc (Nat.le_refl _) _).mono BW.out.size))
    · obtain ⟨x0, x1, x2, x3⟩ := (KX.out wr BW.out).2
      have ho4 : off + 4 + 1 = off + 5 := rfl
      have HD := Lib.hid (end_cases y)
      have HNO : Hid (endT y = none → gath (.cmp s [x, y]) = none) := gath_none2 HS.out
      obtain ⟨h1, he⟩ | ⟨h1, h2, he⟩ | ⟨h1, h2, h3, he⟩ | ⟨h1, h2, h3, he⟩ | ⟨h1, h2, he⟩ := HD.out
      · have HHE := Lib.hid he
        clear he
        rw [h1] at x0
        go_wp2
        go_roundg 0
        case measure => have := HN.out; omega
        case rel => first | exact ⟨2, lo, y.num, by omega, by go_num, rfl, ((HE.out.al _).s1 _), (fun _ => HX.out (by omega) : _ → _), (fun _ => Hid.out HHE : _ → _)⟩ | exact ⟨2, lo, y.num, by omega, by go_num, rfl, ((HE.out.s1 _).al _), (fun _ => HX.out (by omega) : _ → _), (fun _ => Hid.out HHE : _ → _)⟩
      · have HHE := Lib.hid he
        clear he
        rw [h1] at x0
        go_wp2
        go_roundg 0
        case measure => have := HN.out; omega
        case rel => first | exact ⟨2, lo, (-200), by omega, by go_num, rfl, ((HE.out.al _).s1 _), (fun _ => HX.out (by omega) : _ → _), (fun _ => Hid.out HHE : _ → _)⟩ | exact ⟨2, lo, (-200), by omega, by go_num, rfl, ((HE.out.s1 _).al _), (fun _ => HX.out (by omega) : _ → _), (fun _ => Hid.out HHE : _ → _)⟩
      · have HHE := Lib.hid he
        clear he
        rw [h1] at x0
        go_wp2
        go_roundg 0
        case measure => have := HN.out; omega
        case rel => first | exact ⟨2, lo, 200, by omega, by go_num, rfl, ((HE.out.al _).s1 _), (fun _ => HX.out (by omega) : _ → _), (fun _ => Hid.out HHE : _ → _)⟩ | exact ⟨2, lo, 200, by omega, by go_num, rfl, ((HE.out.s1 _).al _), (fun _ => HX.out (by omega) : _ → _), (fun _ => Hid.out HHE : _ → _)⟩
      · have HHE := Lib.hid (HNO.out he)
        clear he
        rw [h1] at x0
        go_wp2
        go_ret2
        exact retG_no HHE.out (BW.out.trans (((Below.refl _ _).alloc (Nat.le_refl _) _).mono BW.out.size))
      · have HHE := Lib.hid (HNO.out he)
        clear he
        go_wp2
        go_ret2
        exact retG_no HHE.out (BW.out.trans (((Below.refl _ _).alloc (Nat.le_refl _) _).mono BW.out.size))
    · have hgx := HX.out (by omega)
      have hgy := HY.out (by omega)
      have HG : Hid (gath (.cmp s [x, y]) = if s.toList = [46, 46] then some [(lo, hi)] else none) := by
        show _ = _
        rw [gath_end HS.out, hgx, hgy, dotS_list]
      clear hgx hgy HX HY
      have FIN : Hid (∀ (W : World) (ok : Bool), (s.toList == [46, 46]) = ok → RgAt W (.slice (some ⟨wr.heap.size, 0, none⟩) 1 1) [(lo, hi)] → Below w.heap.size w W → RetG (.cmp s [x, y]) w (.returned (.tuple #[.slice (some ⟨wr.heap.size, 0, none⟩) 1 1, .bool ok])) W) := fun W ok h hr hb => by
        refine ⟨_, [(lo, hi)], 1, ok, rfl, hr, fun h' => ?_, fun h' => ?_, by simp [Tm.size], hb⟩
        · rw [HG.out, if_pos]; rw [h'] at h; simpa using h
        · rw [HG.out, if_neg]; rw [h'] at h; simpa using h
      have RG := Lib.hid (rg_one wr lo hi 107)
      generalize hq : (s.toList == [46, 46]) = ok at *
      have hlt0 : w.heap.size < wr.heap.size := by omega
      clear HG
      go_upto_region 21 with (fail)
      go_region
      go_wp2
      go_ret2
      exact FIN.out _ ok rfl RG.out (BW.out.trans ((((Below.refl _ _).alloc (Nat.le_refl _) _).drew).mono BW.out.size))
theorem gather_all (t : Tm) : GathC t := by
  induction t using Tm.ind with
  | h4 s l ih =>
    intro va w ht hz
    match l, ih, ht, hz with
    | [x, y], ih, ht, hz =>
      by_cases hs : s.toList = orS.toList
      · exact gather_or s x y va w ht hs hz (ih x (by simp)) (ih y (by simp))
      · exact gather_end s x y va w ht hs
    | [], _, ht, _ => exact gather_leaf _ va w ht (fun _ _ _ h => by simp at h)
    | [_], _, ht, _ => exact gather_leaf _ va w ht (fun _ _ _ h => by simp at h)
    | _ :: _ :: _ :: _, _, ht, _ => exact gather_leaf _ va w ht (fun _ _ _ h => by simp at h)
  | _ => exact fun va w ht _ => gather_leaf _ va w ht (fun _ _ _ h => by cases h)
/-- what Of hands back -/
def RetOfD (t : Tm) (w : World) (e : Ending) (w' : World) : Prop := ∃ ao L cap ok, e = .returned (.tuple #[.slice ao (List.length L) cap, .bool ok]) ∧ RgAt w' (.slice ao (List.length L) cap) L ∧ (ok = true → ofD t = some L) ∧ (ok = false → ofD t = none ∧ L = []) ∧ List.length L ≤ 201 ∧ Below w.heap.size w w'
set_option maxRecDepth 100000 in
set_option maxHeartbeats 3200000 in
theorem domOf_c (t : Tm) (va : Value) (w : World) (ht : TmAt (fun _ => True) w t va) (hz : t.size ≤ 2001) : Calls Try.prog 56 #[tmV t va] w (RetOfD t w) := by
  obtain ⟨ao, cc, rfl, _⟩ := ht.shape
  have B1 : Hid (Below w.heap.size w (w.alloc (.cells #[.int .i64 t.kind, .int .i64 t.num, .string t.name, .slice ao t.args.length cc] 24))) := (Below.refl _ _).alloc (Nat.le_refl _) _
  have CG : Hid (Calls Try.prog 94 #[.agg #[.int .i64 t.kind, .int .i64 t.num, .string t.name, .slice ao t.args.length cc]] (w.alloc (.cells #[.int .i64 t.kind, .int .i64 t.num, .string t.name, .slice ao t.args.length cc] 24)) (RetG t (w.alloc (.cells #[.int .i64 t.kind, .int .i64 t.num, .string t.name, .slice ao t.args.length cc] 24)))) := gather_all t _ _ (ht.later B1.out) hz
  unfold tmV
  clear ht
  go_enter Try.func56, Try.ntmps56
  go_upto_region 2 with (first | (go_at_call 94; ((with_reducible refine CG.out.mono ?_); rintro e W1 ⟨a1, L1, c1, o1, rfl, r1, g1, g1', l1, bb⟩; have R1 := Lib.hid r1; have G1 := Lib.hid g1; have G1' := Lib.hid g1'; have P1 := Lib.hid (B1.out.trans (bb.mono B1.out.size)); clear bb r1 g1 g1')))
  cases o1 with
  | false =>
    have HN : Hid (ofD t = none) := by show _ = _; unfold ofD; rw [G1'.out rfl]; rfl
    clear G1 G1'
    go_wp2
    go_ret2
    exact ⟨none, [], 0, false, rfl, RgAt.nil, (fun h => by cases h), (fun _ => ⟨HN.out, rfl⟩), Nat.zero_le _, P1.out⟩
  | true =>
    have HN : Hid (ofD t = some (norm L1)) := by show _ = _; unfold ofD; rw [G1.out rfl]; rfl
    have CN := Lib.hid (norm_c _ L1 W1 R1.out (by omega))
    have HL := Lib.hid (norm_len L1)
    clear G1 G1'
    generalize norm L1 = L at *
    go_wp2_with (first | (go_at_call 90; ((with_reducible refine CN.out.mono ?_); rintro e W2 ⟨a2, c2, rfl, r2, b2⟩; have R2 := Lib.hid r2; have P2 := Lib.hid (P1.out.trans (b2.mono P1.out.size)); clear r2 b2)))
    go_ret2
    exact ⟨a2, L, c2, true, rfl, R2.out, (fun _ => HN.out), (fun h => by cases h), HL.out, P2.out⟩
end Go.Proofs.Ytmffobadnmkpbaa
namespace Go.Proofs.Ytmffobadnmkpbaa
open Go.RowKit

def RetEnd (u : Tm) (w : World) (e : Ending) (w' : World) : Prop := ∃ (z : Int) (ok : Bool), e = .returned (.tuple #[.int .i64 z, .bool ok]) ∧ (ok = true → endT u = some z) ∧ (ok = false → endT u = none) ∧ Below w.heap.size w w'
theorem retEnd_some {u : Tm} {z : Int} (h : endT u = some z) {w w' : World} (hb : Below w.heap.size w w') : RetEnd u w (.returned (.tuple #[.int .i64 z, .bool true])) w' := ⟨z, true, rfl, fun _ => h, (fun h => by cases h), hb⟩
theorem retEnd_none {u : Tm} (h : endT u = none) {w w' : World} (hb : Below w.heap.size w w') : RetEnd u w (.returned (.tuple #[.int .i64 0, .bool false])) w' := ⟨0, false, rfl, (fun h => by cases h), fun _ => h, hb⟩
set_option maxRecDepth 100000 in
set_option maxHeartbeats 1600000 in
theorem refEnd_c (u : Tm) (ao : Option Addr) (cc : Nat) (w : World) : Calls Try.prog 101 #[.agg #[.int .i64 u.kind, .int .i64 u.num, .string u.name, .slice ao u.args.length cc]] w (RetEnd u w) := by
  have HZ : Hid (∀ o, Below w.heap.size w (w.alloc o)) := fun o => (Below.refl _ _).alloc (Nat.le_refl _) _
  obtain ⟨h1, he⟩ | ⟨h1, h2, he⟩ | ⟨h1, h2, h3, he⟩ | ⟨h1, h2, h3, he⟩ | ⟨h1, h2, he⟩ := end_cases u
  · have HE := Lib.hid he
    rw [h1]
    clear he h1
    go_enter Try.func101, Try.ntmps101
    go_wp2
    go_ret2
    exact retEnd_some HE.out (HZ.out _)
  · have HE := Lib.hid he
    rw [h1]
    clear he h1
    go_enter Try.func101, Try.ntmps101
    go_wp2
    go_ret2
    exact retEnd_some HE.out (HZ.out _)
  · have HE := Lib.hid he
    rw [h1]
    clear he h1
    go_enter Try.func101, Try.ntmps101
    go_wp2
    go_ret2
    exact retEnd_some HE.out (HZ.out _)
  · have HE := Lib.hid he
    rw [h1]
    clear he h1
    go_enter Try.func101, Try.ntmps101
    go_wp2
    go_ret2
    exact retEnd_none HE.out (HZ.out _)
  · have HE := Lib.hid he
    clear he
    go_enter Try.func101, Try.ntmps101
    go_wp2
    go_ret2
    exact retEnd_none HE.out (HZ.out _)
theorem ofD_or {s : ByteArray} {x y : Tm} (h : s.toList = orS.toList) : ofD (.cmp s [x, y]) = (match ofD x, ofD y with | some a, some b => some (joinL a b) | _, _ => none) := by
  unfold ofD
  rw [gath_or h]
  cases gath x with
  | none => rfl
  | some a => cases gath y with
    | none => rfl
    | some b => simp [norm_append, joinL_norm]
theorem ofD_dot {s : ByteArray} {x y : Tm} (h : s.toList = dotS.toList) : ofD (.cmp s [x, y]) = (match endT x, endT y with | some lo, some hi => some (norm [(lo, hi)]) | _, _ => none) := by
  unfold ofD
  rw [gath_end (by rw [h, dotS_list, orS_list]; decide), if_pos h]
  cases endT x with
  | none => rfl
  | some a => cases endT y with
    | none => rfl
    | some b => rfl
theorem ofD_not {s : ByteArray} {x y : Tm} (h : s.toList ≠ dotS.toList) (h2 : s.toList ≠ orS.toList) : ofD (.cmp s [x, y]) = none := by
  unfold ofD
  rw [gath_end h2, if_neg h]; rfl
theorem retOf_no {t : Tm} (h : ofD t = none) {w w' : World} (hb : Below w.heap.size w w') : RetOfD t w (.returned (.tuple #[.slice none 0 0, .bool false])) w' :=
  ⟨none, [], 0, false, rfl, RgAt.nil, (fun h => by cases h), (fun _ => ⟨h, rfl⟩), Nat.zero_le _, hb⟩
theorem retOf_yes {t : Tm} {L : List Rg} (h : ofD t = some L) {w w' : World} {ao : Option Addr} {cap : Nat} (hr : RgAt w' (.slice ao L.length cap) L) (hl : L.length ≤ 201) (hb : Below w.heap.size w w') : RetOfD t w (.returned (.tuple #[.slice ao L.length cap, .bool true])) w' :=
  ⟨ao, L, cap, true, rfl, hr, (fun _ => h), (fun h => by cases h), hl, hb⟩
set_option maxRecDepth 100000 in
set_option maxHeartbeats 3200000 in
theorem refOf_leaf (t : Tm) (va : Value) (w : World) (ht : TmAt (fun _ => True) w t va) (hn : ∀ s x y, t ≠ .cmp s [x, y]) : Calls Try.prog 61 #[tmV t va] w (RetOfD t w) := by
  obtain ⟨ao, cc, rfl, _⟩ := ht.shape
  have B1 : Hid (Below w.heap.size w (w.alloc (.cells #[.int .i64 t.kind, .int .i64 t.num, .string t.name, .slice ao t.args.length cc] 24))) := (Below.refl _ _).alloc (Nat.le_refl _) _
  unfold tmV
  by_cases h2 : t.kind = 2
  · obtain ⟨z, rfl⟩ : ∃ z, t = .int z := by cases t <;> simp [Tm.kind] at h2; exact ⟨_, rfl⟩
    simp only [Tm.kind, Tm.num, Tm.name, Tm.args, List.length_nil] at B1 ⊢
    clear ht hn h2
    have h := rg_one (w.alloc (.cells #[.int .i64 2, .int .i64 z, .string ByteArray.empty, .slice ao 0 cc] 24)) z z 107
    simp only [World.size_alloc] at h
    have CN := Lib.hid (refNorm_c _ [(z, z)] _ h (by simp))
    have HO : Hid (ofD (.int z) = some (norm [(z, z)])) := by show _ = _; simp [ofD, gath]
    have HL := Lib.hid (norm_len [(z, z)])
    have B2 : Hid (Below w.heap.size w ((w.alloc (.cells #[.int .i64 2, .int .i64 z, .string ByteArray.empty, .slice ao 0 cc] 24)).alloc (.cells #[.int .i64 z, .int .i64 z] 107))) := B1.out.alloc (by simp) _
    clear h
    generalize norm [(z, z)] = L at *
    go_enter Try.func61, Try.ntmps61
    go_wp2_with (first | (go_at_call 59; ((with_reducible refine CN.out.mono ?_); rintro e W2 ⟨a2, c2, rfl, r2, b2⟩; have R2 := Lib.hid r2; have P2 := Lib.hid (B2.out.trans (b2.mono B2.out.size)); clear r2 b2)))
    go_ret2
    exact retOf_yes HO.out R2.out HL.out P2.out
  have b2 : (t.kind == 2) = false := by simpa using h2
  have hg : ofD t = none := by
    have hg : gath t = none := by
      cases t with
      | int z => simp [Tm.kind] at h2
      | cmp s l =>
        match l, hn with
        | [], _ => rfl
        | [_], _ => rfl
        | [x, y], hn => exact absurd rfl (hn s x y)
        | _ :: _ :: _ :: _, _ => rfl
      | _ => rfl
    unfold ofD; rw [hg]; rfl
  have HG := Lib.hid hg
  by_cases h4 : t.kind = 4
  · have hl : t.args.length ≠ 2 := by
      obtain ⟨s, l, rfl⟩ : ∃ s l, t = .cmp s l := by cases t <;> simp [Tm.kind] at h4; exact ⟨_, _, rfl⟩
      intro h
      match l, h with
      | [x, y], _ => exact hn s x y rfl
    have bl : ((t.args.length : Int) != 2) = true := by simp; omega
    rw [h4] at B1 ⊢
    generalize t.args.length = n at *
    clear ht hn h2 hg h4 b2
    go_enter Try.func61, Try.ntmps61
    go_wp2
    go_ret2
    exact retOf_no HG.out B1.out
  · have b4 : (t.kind != 4) = true := by simpa using h4
    generalize t.args.length = n at *
    clear ht hn h2 hg h4
    go_enter Try.func61, Try.ntmps61
    go_wp2
    go_ret2
    exact retOf_no HG.out B1.out
def ROfC (t : Tm) : Prop := ∀ (va : Value) (w : World), TmAt (fun _ => True) w t va → Calls Try.prog 61 #[tmV t va] w (RetOfD t w)
set_option maxRecDepth 100000 in
set_option maxHeartbeats 6400000 in
theorem refOf_pair (s : ByteArray) (x y : Tm) (va : Value) (w : World) (ht : TmAt (fun _ => True) w (.cmp s [x, y]) va) (hx : ROfC x) (hy : ROfC y) : Calls Try.prog 61 #[tmV (.cmp s [x, y]) va] w (RetOfD (.cmp s [x, y]) w) := by
  obtain ⟨ao, cc, rfl, _⟩ := ht.shape
  obtain ⟨b, off, p0, q0, p1, q1, rfl, cx, cy, tx, ty⟩ := pair_parts ht
  have B1 : Hid (∀ W, Below (w.heap.size + 1) (w.alloc (.cells #[.int .i64 4, .int .i64 0, .string s, .slice (some ⟨b, off, none⟩) 2 cc] 24)) W → Below w.heap.size w W) := fun W h => ((Below.refl _ _).alloc (Nat.le_refl _) _).trans (h.mono (by omega))
  have KB := Lib.hid (box_t w (.int .i64 4) (.int .i64 0) (.string s) (.slice (some ⟨b, off, none⟩) 2 cc))
  have KX : Hid (∀ W, Below w.heap.size w W → CellsT W b off x (.slice p0 x.args.length q0) ∧ CellsT W b (off + 4) y (.slice p1 y.args.length q1)) := fun W h => ⟨cx.block (h.block _ cx.lt), cy.block (h.block _ cy.lt)⟩
  have hbw := cx.lt
  have hbw1 : b < w.heap.size + 1 := by omega
  have ho4 : off + 4 + 1 = off + 5 := rfl
  obtain ⟨x0, x1, x2, x3⟩ := cx
  show Calls _ _ #[.agg #[.int .i64 4, .int .i64 0, .string s, .slice (some ⟨b, off, none⟩) 2 cc]] _ _
  by_cases hd : s.toList = dotS.toList
  · have hsb : (s.toList == [46, 46]) = true := by rw [hd, dotS_list]; rfl
    have HO := Lib.hid (ofD_dot (x := x) (y := y) hd)
    have CX : Hid (∀ W, Calls Try.prog 101 #[.agg #[.int .i64 x.kind, .int .i64 x.num, .string x.name, .slice p0 x.args.length q0]] W (RetEnd x W)) := fun W => refEnd_c x p0 q0 W
    have CY : Hid (∀ W, Calls Try.prog 101 #[.agg #[.int .i64 y.kind, .int .i64 y.num, .string y.name, .slice p1 y.args.length q1]] W (RetEnd y W)) := fun W => refEnd_c y p1 q1 W
    clear ht tx ty cy hx hy hd
    go_enter Try.func61, Try.ntmps61
    go_upto_region 9 with (first | (go_at_call 101; ((with_reducible refine (CX.out _).mono ?_); rintro e W1 ⟨z1, o1, rfl, g1, g1', bb⟩; have G1 := Lib.hid g1; have G1' := Lib.hid g1'; have P1 : Hid (Below (w.heap.size + 1) (w.alloc (.cells #[.int .i64 4, .int .i64 0, .string s, .slice (some ⟨b, off, none⟩) 2 cc] 24)) W1) := (by have h := bb; simp only [World.size_alloc] at h; exact h); clear bb g1 g1')))
    clear x0 x1 x2 x3 CX
    obtain ⟨k0, k1, k2, k3⟩ := KB.out W1 P1.out
    obtain ⟨x0, x1, x2, x3⟩ := (KX.out W1 (B1.out W1 P1.out)).2
    have hw1 := P1.out.size
    simp only [World.size_alloc] at hw1
    go_upto_region 10 with (first | (go_at_call 101; ((with_reducible refine (CY.out _).mono ?_); rintro e W2 ⟨z2, o2, rfl, g2, g2', bb⟩; have G2 := Lib.hid g2; have G2' := Lib.hid g2'; have P2 := Lib.hid ((B1.out _ P1.out).trans (bb.mono (by omega))); clear bb g2 g2')))
    clear x0 x1 x2 x3 k0 k1 k2 k3 CY KX KB
    cases o1 with
    | false =>
      have HN : Hid (ofD (.cmp s [x, y]) = none) := by show _ = _; rw [HO.out, G1'.out rfl]
      clear G1 G1' G2 G2'
      go_wp2
      go_ret2
      exact retOf_no HN.out P2.out
    | true =>
      cases o2 with
      | false =>
        have HN : Hid (ofD (.cmp s [x, y]) = none) := by show _ = _; rw [HO.out, G2'.out rfl, G1.out rfl]
        clear G1 G1' G2 G2'
        go_wp2
        go_ret2
        exact retOf_no HN.out P2.out
      | true =>
        have HN : Hid (ofD (.cmp s [x, y]) = some (norm [(z1, z2)])) := by show _ = _; rw [HO.out, G2.out rfl, G1.out rfl]
        have h := rg_one W2 z1 z2 107
        have CN := Lib.hid (refNorm_c _ [(z1, z2)] _ h (by simp))
        have HL := Lib.hid (norm_len [(z1, z2)])
        have P3 : Hid (Below w.heap.size w (W2.alloc (.cells #[.int .i64 z1, .int .i64 z2] 107))) := P2.out.alloc P2.out.size _
        clear G1 G1' G2 G2' h
        generalize norm [(z1, z2)] = L at *
        go_wp2_with (first | (go_at_call 59; ((with_reducible refine CN.out.mono ?_); rintro e W3 ⟨a2, c2, rfl, r2, b2⟩; have R2 := Lib.hid r2; have P4 := Lib.hid (P3.out.trans (b2.mono P3.out.size)); clear r2 b2)))
        go_ret2
        exact retOf_yes HN.out R2.out HL.out P4.out
  have hsb : (s.toList == [46, 46]) = false := by rw [← dotS_list]; simpa using hd
  by_cases ho : s.toList = orS.toList
  · have hso : (s.toList == [92, 47]) = true := by rw [ho, orS_list]; rfl
    have HO := Lib.hid (ofD_or (x := x) (y := y) ho)
    have CX : Hid (∀ W, Below w.heap.size w W → Calls Try.prog 61 #[.agg #[.int .i64 x.kind, .int .i64 x.num, .string x.name, .slice p0 x.args.length q0]] W (RetOfD x W)) := fun W h => hx _ W (tx.later h)
    have CY : Hid (∀ W, Below w.heap.size w W → Calls Try.prog 61 #[.agg #[.int .i64 y.kind, .int .i64 y.num, .string y.name, .slice p1 y.args.length q1]] W (RetOfD y W)) := fun W h => hy _ W (ty.later h)
    clear ht tx ty cy hx hy hd ho
    go_enter Try.func61, Try.ntmps61
    go_upto_region 16 with (first | (go_at_call 61; ((with_reducible refine (CX.out _ ?_).mono ?_); (· exact B1.out _ (Below.refl _ _)); rintro e W1 ⟨a1, L1, c1, o1, rfl, r1, g1, g1', l1, bb⟩; have R1 := Lib.hid r1; have G1 := Lib.hid g1; have G1' := Lib.hid g1'; have P1 : Hid (Below (w.heap.size + 1) (w.alloc (.cells #[.int .i64 4, .int .i64 0, .string s, .slice (some ⟨b, off, none⟩) 2 cc] 24)) W1) := (by have h := bb; simp only [World.size_alloc] at h; exact h); clear bb r1 g1 g1')))
    clear x0 x1 x2 x3 CX
    obtain ⟨k0, k1, k2, k3⟩ := KB.out W1 P1.out
    obtain ⟨x0, x1, x2, x3⟩ := (KX.out W1 (B1.out W1 P1.out)).2
    have hw1 := P1.out.size
    simp only [World.size_alloc] at hw1
    go_upto_region 17 with (first | (go_at_call 61; ((with_reducible refine (CY.out _ (B1.out _ P1.out)).mono ?_); rintro e W2 ⟨a2, L2, c2, o2, rfl, r2, g2, g2', l2, bb⟩; have R2 := Lib.hid r2; have G2 := Lib.hid g2; have G2' := Lib.hid g2'; have R12 := Lib.hid (R1.out.below bb); have P2 := Lib.hid ((B1.out _ P1.out).trans (bb.mono (by omega))); clear bb r2 g2 g2')))
    clear x0 x1 x2 x3 k0 k1 k2 k3 CY KX KB R1
    cases o1 with
    | false =>
      have HN : Hid (ofD (.cmp s [x, y]) = none) := by show _ = _; rw [HO.out, (G1'.out rfl).1]
      clear G1 G1' G2 G2'
      go_wp2
      go_ret2
      exact retOf_no HN.out P2.out
    | true =>
      cases o2 with
      | false =>
        have HN : Hid (ofD (.cmp s [x, y]) = none) := by show _ = _; rw [HO.out, (G2'.out rfl).1, G1.out rfl]
        clear G1 G1' G2 G2'
        go_wp2
        go_ret2
        exact retOf_no HN.out P2.out
      | true =>
        have HN : Hid (ofD (.cmp s [x, y]) = some (joinL L1 L2)) := by show _ = _; rw [HO.out, G2.out rfl, G1.out rfl]
        have CN := Lib.hid (refJoin_c _ _ L1 L2 W2 R12.out R2.out (by omega) (by omega))
        have HL : Hid ((joinL L1 L2).length ≤ 201) := canon_len _
        clear G1 G1' G2 G2'
        generalize joinL L1 L2 = L at *
        go_wp2_with (first | (go_at_call 102; ((with_reducible refine CN.out.mono ?_); rintro e W3 ⟨a3, c3, rfl, r3, b3⟩; have R3 := Lib.hid r3; have P4 := Lib.hid (P2.out.trans (b3.mono P2.out.size)); clear r3 b3)))
        go_ret2
        exact retOf_yes HN.out R3.out HL.out P4.out
  · have hso : (s.toList == [92, 47]) = false := by rw [← orS_list]; simpa using ho
    have HN := Lib.hid (ofD_not (x := x) (y := y) hd ho)
    clear ht tx ty cy hx hy hd ho
    go_enter Try.func61, Try.ntmps61
    go_wp2
    go_ret2
    exact retOf_no HN.out (B1.out _ (Below.refl _ _))
theorem refOf_all (t : Tm) : ROfC t := by
  induction t using Tm.ind with
  | h4 s l ih =>
    intro va w ht
    match l, ih, ht with
    | [x, y], ih, ht => exact refOf_pair s x y va w ht (ih x (by simp)) (ih y (by simp))
    | [], _, ht => exact refOf_leaf _ va w ht (fun _ _ _ h => by simp at h)
    | [_], _, ht => exact refOf_leaf _ va w ht (fun _ _ _ h => by simp at h)
    | _ :: _ :: _ :: _, _, ht => exact refOf_leaf _ va w ht (fun _ _ _ h => by simp at h)
  | _ => exact fun va w ht => refOf_leaf _ va w ht (fun _ _ _ h => by cases h)
end Go.Proofs.Ytmffobadnmkpbaa
namespace Go.Proofs.Ytmffobadnmkpbaa
open Go.RowKit

theorem dt_gen {P : Program} {c : Code} {Q : Exit → Act → World → Prop} {a : Act} {W' : World} (h : ∀ W9, W9 = W' → c.wp P Q a W9) : c.wp P Q a W' := h _ rfl
theorem dt_genX {K : Act → World → Prop} {Q : Exit → Act → World → Prop} {a : Act} {W' : World} (h : ∀ W9, W9 = W' → Exit.then K Q Exit.normal a W9) : Exit.then K Q Exit.normal a W' := h _ rfl
/-- the box of what there is so far, behind box h; what the norm's list lies in stays -/
structure Dt (h : Nat) (V W1 W : World) (G : Tm) (gv : Value) : Prop where
  out : BoxL W (h + 1) [.int .i64 G.kind, .int .i64 G.num, .string G.name, gv]
  outAt : TmAt (fun b => h + 2 ≤ b) W G gv
  agr : ∀ b, b < W1.heap.size → b ≠ h + 1 → W.heap[b]? = W1.heap[b]?
  sz : W1.heap.size ≤ W.heap.size
  lo : h + 2 ≤ W1.heap.size
  low : Below (h + 1) V W
theorem Dt.below {h : Nat} {V W1 W W' : World} {G : Tm} {gv : Value} (H : Dt h V W1 W G gv) (hb : Below W.heap.size W W') : Dt h V W1 W' G gv :=
  have h1 := H.sz
  have h2 := H.lo
  ⟨H.out.below hb (by omega), H.outAt.grow hb fun _ _ h => h, fun b hb1 hne => (hb.block b (by omega)).trans (H.agr b hb1 hne), Nat.le_trans H.sz hb.size, H.lo, H.low.trans (hb.mono (by omega))⟩
/-- with the box T of the next one -/
structure Md (h : Nat) (V W1 W : World) (G : Tm) (gv : Value) (T : Nat) (t : Tm) (tv : Value) : Prop where
  dt : Dt h V W1 W G gv
  outT : TmAt (fun b => h + 2 ≤ b ∧ b ≠ T) W G gv
  tb : BoxL W T [.int .i64 t.kind, .int .i64 t.num, .string t.name, tv]
  tAt : TmAt (fun b => h + 2 ≤ b ∧ b ≠ T) W t tv
  far : W1.heap.size ≤ T
theorem Md.lt {h : Nat} {V W1 W : World} {G t : Tm} {gv tv : Value} {T : Nat} (H : Md h V W1 W G gv T t tv) : T < W.heap.size := H.tb.lt (by simp)
theorem Md.below {h : Nat} {V W1 W W' : World} {G t : Tm} {gv tv : Value} {T : Nat} (H : Md h V W1 W G gv T t tv) (hb : Below W.heap.size W W') : Md h V W1 W' G gv T t tv :=
  ⟨H.dt.below hb, H.outT.grow hb fun _ _ h => h, H.tb.below hb H.lt, H.tAt.grow hb fun _ _ h => h, H.far⟩
/-- a box laid behind, with a leaf in it -/
theorem Md.start {h : Nat} {V W1 W : World} {G t : Tm} {gv : Value} (H : Dt h V W1 W G gv) (ht : t.args = []) {e : TypeId} : Md h V W1 (W.alloc (.cells #[.int .i64 t.kind, .int .i64 t.num, .string t.name, .slice none 0 0] e)) G gv W.heap.size t (.slice none 0 0) := by
  have hb : Below W.heap.size W (W.alloc (.cells #[.int .i64 t.kind, .int .i64 t.num, .string t.name, .slice none 0 0] e)) := (Below.refl _ _).alloc (Nat.le_refl _) _
  exact ⟨H.below hb, H.outAt.mono fun b hl hp => ⟨⟨hp, by omega⟩, hb.block b hl⟩, BoxL.mk' W #[.int .i64 t.kind, .int .i64 t.num, .string t.name, .slice none 0 0] e, .leaf ht, H.sz⟩
/-- another term stored there -/
theorem Md.put {h : Nat} {V W1 W X : World} {G t t' : Tm} {gv tv tv' : Value} {T : Nat} (H : Md h V W1 W G gv T t tv) (ht : TmAt (fun b => h + 2 ≤ b ∧ b ≠ T) W t' tv')
    (hX : X = ((((W.setCell ⟨T, 0, none⟩ (.int .i64 t'.kind)).setCell ⟨T, 1, none⟩ (.int .i64 t'.num)).setCell ⟨T, 2, none⟩ (.string t'.name)).setCell ⟨T, 3, none⟩ tv')) : Md h V W1 X G gv T t' tv' := by
  have hf : ∀ b, b ≠ T → X.heap[b]? = W.heap[b]? := fun b hb => by rw [hX]; exact heap_set4 _ _ _ _ _ _ hb
  have hs : X.heap.size = W.heap.size := by rw [hX]; simp
  have h1 := H.far
  have h2 := H.dt.lo
  have hl : Below (h + 1) W X := by rw [hX]; exact below4 (Below.refl _ _) (by omega) _ _ _ _
  have mv : ∀ {u : Tm} {v : Value}, TmAt (fun b => h + 2 ≤ b ∧ b ≠ T) W u v → TmAt (fun b => h + 2 ≤ b ∧ b ≠ T) X u v := fun hu => hu.mono fun b _ hp => ⟨hp, hf b hp.2⟩
  refine ⟨⟨H.dt.out.block (hf _ (by omega)), (mv H.outT).mono fun b _ hp => ⟨hp.1, rfl⟩, fun b hb hne => (hf b (by omega)).trans (H.dt.agr b hb hne), by rw [hs]; exact H.dt.sz, H.dt.lo, H.dt.low.trans hl⟩, mv H.outT, ?_, mv ht, H.far⟩
  rw [hX]; exact box4set H.tb _ _ _ _
/-- what stands there becomes what there is -/
theorem Md.take {h : Nat} {V W1 W X : World} {G t : Tm} {gv tv : Value} {T : Nat} (H : Md h V W1 W G gv T t tv)
    (hX : X = ((((W.setCell ⟨h + 1, 0, none⟩ (.int .i64 t.kind)).setCell ⟨h + 1, 1, none⟩ (.int .i64 t.num)).setCell ⟨h + 1, 2, none⟩ (.string t.name)).setCell ⟨h + 1, 3, none⟩ tv)) : Dt h V W1 X t tv := by
  have hf : ∀ b, b ≠ h + 1 → X.heap[b]? = W.heap[b]? := fun b hb => by rw [hX]; exact heap_set4 _ _ _ _ _ _ hb
  have hs : X.heap.size = W.heap.size := by rw [hX]; simp
  have hl : Below (h + 1) W X := by rw [hX]; exact below4 (Below.refl _ _) (Nat.le_refl _) _ _ _ _
  refine ⟨?_, H.tAt.mono fun b _ hp => ⟨hp.1, hf b (by omega)⟩, fun b hb hne => (hf b hne).trans (H.dt.agr b hb hne), by rw [hs]; exact H.dt.sz, H.dt.lo, H.dt.low.trans hl⟩
  rw [hX]; exact box4set H.dt.out _ _ _ _
theorem rg_cells {w : World} {v : Value} {L : List Rg} (h : RgAt w v L) (k : Nat) (hk : k < L.length) : ∃ b off cap, v = .slice (some ⟨b, off, none⟩) L.length cap ∧ b < w.heap.size ∧ w.cell? ⟨b, off + k * 2, none⟩ = some (.int .i64 L[k].1) ∧ w.cell? ⟨b, off + k * 2 + 1, none⟩ = some (.int .i64 L[k].2) := by
  obtain ⟨b, off, cap, hv, _, _, hb, hc⟩ := SlAt.pos h (by omega)
  obtain ⟨e1, e2⟩ := cellsR_at L k hk
  refine ⟨b, off, cap, hv, hb, ?_, ?_⟩
  · rw [hc (k * 2) (by omega), e1]
  · rw [Nat.add_assoc, hc (k * 2 + 1) (by omega), e2]
theorem outT_step (l : List Rg) (k : Nat) (hk : k < l.length) : outT l (k + 1) = if k = 0 then rgT l[k] else pairT orS (outT l k) (rgT l[k]) := by
  have e : l.getD k (0, 0) = l[k] := by rw [List.getD_eq_getElem?_getD, List.getElem?_eq_getElem hk]; rfl
  rw [outT, e]
theorem rcs {W : World} {R : Nat} {a b : Value} (h : BoxL W R [a, b]) : W.cell? ⟨R, 0, none⟩ = some a ∧ W.cell? ⟨R, 1, none⟩ = some b := ⟨(h.get 0 rfl).1, (h.get 1 rfl).1⟩
theorem rcs_set {W : World} {R T : Nat} {a b x0 x1 x2 x3 : Value} (h : BoxL W R [a, b]) (hne : R ≠ T) : ((((W.setCell ⟨T, 0, none⟩ x0).setCell ⟨T, 1, none⟩ x1).setCell ⟨T, 2, none⟩ x2).setCell ⟨T, 3, none⟩ x3).cell? ⟨R, 0, none⟩ = some a ∧ ((((W.setCell ⟨T, 0, none⟩ x0).setCell ⟨T, 1, none⟩ x1).setCell ⟨T, 2, none⟩ x2).setCell ⟨T, 3, none⟩ x3).cell? ⟨R, 1, none⟩ = some b :=
  rcs (h.block (heap_set4 _ _ _ _ _ _ hne))
end Go.Proofs.Ytmffobadnmkpbaa
