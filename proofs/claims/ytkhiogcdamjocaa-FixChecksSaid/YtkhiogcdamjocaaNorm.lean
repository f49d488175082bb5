/-
  dom.Norm, walked.
-/
import Derived.Test.YtkhiogcdamjocaaSort
import Derived.Test.YtkhiogcdamjocaaPl
import Derived.Shelf.SlSortCmp.NoneTotal
import Derived.BigQuiet
import Derived.BigRegion
namespace Go.Proofs.Ytkhiogcdamjocaa
open Go.RowKit

theorem cellsR_last (M : List Rg) (p : Rg) (u : Int) : (cellsR (M ++ [p])).set (M.length * 2 + 1) (.int .i64 u) = cellsR (M ++ [(p.1, u)]) := by
  rw [cellsR_append, cellsR_append, List.set_append_right _ _ (by rw [cellsR_length]; omega), cellsR_length, show M.length * 2 + 1 - M.length * 2 = 1 by omega]
  rfl
theorem mergeL_bounds (l : List Rg) (hok : ∀ r ∈ l, -200 ≤ r.1 ∧ r.1 ≤ r.2 ∧ r.2 ≤ 200) (hs : l.Pairwise fun a b => a.1 ≤ b.1) (k : Nat) : ∀ p ∈ mergeL (l.take k), -200 ≤ p.2 ∧ p.2 ≤ 200 := by
  obtain ⟨a, _⟩ := mergeL_ok (l.take k) (fun r hr => hok r (List.mem_of_mem_take hr)) (hs.sublist (List.take_sublist _ _))
  have : ∀ {L : List Rg} {lo : Int}, NormFrom lo L → ∀ p ∈ L, lo ≤ p.2 ∧ p.2 ≤ 200 := by
    intro L
    induction L with
    | nil => intro lo _ p hp; simp at hp
    | cons r L ih =>
      rintro lo ⟨h1, h2, h3, h4⟩ p hp
      rcases List.mem_cons.1 hp with rfl | hp
      · omega
      · have := ih h4 p hp; omega
  exact this a

theorem Try.ownsRow_drewN {w : World} {base : Nat} {e : TypeId} {size : Nat} {v : Value} {n : Nat} {xs : List Value} (h : w.ownsRow base e size v n xs) (q : Nat) : (w.drewN q).ownsRow base e size v n xs := h
/-- slices.SortFunc of no element -/
theorem sort_none (p : Option Addr) (cap : Nat) (w : World) :
    Calls Try.prog 65 #[.slice p 0 cap, .func (.func 66) #[] #[]] w fun e w' => e = .returned (.tuple #[]) ∧ w' = w :=
  AnyF.slices_SortFunc_none Try.sortRg p cap (.func (.func 66) #[] #[]) w
theorem sort_all (v : Value) (rs : List Rg) (w : World) (base : Nat) (hown : w.ownsRow base 84 2 v rs.length (cellsR rs)) (hbase : base ≤ w.heap.size) (hl : rs.length ≤ 4096) :
    Calls Try.prog 65 #[v, .func (.func 66) #[] #[]] w fun e w' => e = .returned (.tuple #[]) ∧
      ∃ l : List Rg, l.length = rs.length ∧ (∀ r, r ∈ l ↔ r ∈ rs) ∧ l.Pairwise (fun a b => a.1 ≤ b.1) ∧ w'.ownsRow base 84 2 v l.length (cellsR l) ∧ Below base w w' := by
  rcases Nat.eq_zero_or_pos rs.length with h0 | h0
  · obtain rfl := List.eq_nil_of_length_eq_zero h0
    obtain ⟨ao, cap, rfl, _⟩ := (SlAt.of_own hown).shape
    exact (sort_none ao cap w).mono fun e w' ⟨he, hw⟩ => by subst hw; exact ⟨he, [], rfl, fun r => Iff.rfl, List.Pairwise.nil, hown, Below.refl _ _⟩
  · exact (sort_own v rs w base hown hbase h0 hl).mono fun e w' ⟨he, l, h1, h2, h3, h4, h5, _⟩ => ⟨he, l, h1, h2, h3, h4, h5⟩

set_option maxRecDepth 100000 in
set_option maxHeartbeats 800000 in
theorem norm_any (v : Value) (rs : List Rg) (w : World) (h : RgAt w v rs) (hl : rs.length ≤ 4096) :
    Calls Try.prog 61 #[v] w fun e w' => ∃ v', e = .returned v' ∧ RgAt w' v' (norm rs) ∧ Below w.heap.size w w' := by
  obtain ⟨i0, hi, hz0, hz1, hz2⟩ := info_parts Try.infoRg
  obtain ⟨ao, cap, rfl, _⟩ := h.shape
  have H := Lib.hid h
  clear h
  go_enter Try.func61, Try.ntmps61
  go_wp2
  go_loopw [3, 12] (fun o s wr => ∃ k : Nat, k ≤ rs.length ∧ s = .int .i64 k ∧ wr.ownsRow w.heap.size 84 2 o (clampL (rs.take k)).length (cellsR (clampL (rs.take k))) ∧ Below w.heap.size w wr) (fun _ s _ => rs.length - (intOf s).toNat)
  case atStart => exact ⟨0, by omega, rfl, World.ownsRow_nil _ _ _ _, Below.refl _ _⟩
  case round =>
    obtain ⟨k, hk, rfl, hown, hbel⟩ := hrel
    by_cases hlt : k < rs.length
    · obtain ⟨b, off, cap', he, hcap, hbs, hc⟩ := RgAt.at (H.out.below hbel) (by omega)
      simp only [Value.slice.injEq, true_and] at he
      obtain ⟨rfl, rfl⟩ := he
      obtain ⟨c1, c2⟩ := hc k hlt
      clear hc
      obtain ⟨r, hr⟩ : ∃ r, r = rs[k] := ⟨_, rfl⟩
      rw [← hr] at c1 c2
      have HR := Lib.hid hr
      clear hr
      have hbe : b ≠ wr.heap.size := by omega
      have hsnoc : clampL (rs.take (k + 1)) = clampL (rs.take k) ++ (if (clampR r).1 ≤ (clampR r).2 then [clampR r] else []) := by
        rw [List.take_add_one, List.getElem?_eq_getElem hlt, ← HR.out]; exact clampL_snoc _ _
      have hlen := clampL_len (rs.take k)
      rw [List.length_take] at hlen
      generalize hC : clampL (rs.take k) = C at hown hsnoc hlen
      have HS := Lib.hid hsnoc
      have HB := Lib.hid hbel
      clear hsnoc hC HR hbel
      have hle : w.heap.size ≤ wr.heap.size := HB.out.size
      go_wp2_with (at_builtin; refine wpList_append2 rfl (.tmp 29) (.tmp 31) 46 rfl w.heap.size 84 i0 (.agg #[.int .i64 0, .int .i64 0]) 16 Try.underlying46 hi hz0 hz1 hz2 rfl _ _ _ rfl (hown.alloc _) _ _ rfl (by simp) rfl rfl (by omega) (by simp; omega) ?_; intro v1 w1 o1 b1 n1)
      · have hc : (clampR r).1 ≤ (clampR r).2 := by assumption
        refine ⟨⟨k + 1, by omega, by go_num, ?_, (HB.out.alloc hle _).trans b1⟩, by simp [intOf]; omega⟩
        rw [HS.out, if_pos hc, List.length_append, cellsR_append]
        exact o1
      · have hc : ¬ (clampR r).1 ≤ (clampR r).2 := by show ¬ max r.1 (-200) ≤ min r.2 200; omega
        refine ⟨⟨k + 1, by omega, by go_num, ?_, HB.out.alloc hle _⟩, by simp [intOf]; omega⟩
        rw [HS.out, if_neg hc, List.append_nil]
        exact hown.alloc _
    · obtain rfl : k = rs.length := by omega
      rw [List.take_length] at hown
      have hlen := clampL_len rs
      generalize hC : clampL rs = C at hown hlen
      obtain ⟨ao2, cap2, rfl, _⟩ := (SlAt.of_own hown).shape
      have CS := sort_all _ C wr w.heap.size hown hbel.size (by omega)
      have HB := Lib.hid hbel
      have hmem := mergeL_norm rs
      rw [hC] at hmem
      have HM := Lib.hid hmem
      have HC := Lib.hid hC
      clear hC hbel hown hmem
      generalize C.length = n at CS hlen ⊢
      go_wp2_with (go_at_call 65; refine CS.mono ?_; rintro e W ⟨rfl, l, rfl, hlm, hlp, hown, hbel⟩; clear CS; have HN := Lib.hid (HM.out l hlm hlp); have HBD := Lib.hid (mergeL_bounds l (fun r hr => clampL_ok rs r (by rw [HC.out]; exact (hlm r).1 hr)) hlp); clear hlm hlp HM; have HW := Lib.hid (HB.out.trans hbel); clear hbel HB)
      have hl2 : l.length ≤ 4096 := by omega
      have HO := Lib.hid (RgAt.own hown)
      clear hown
      go_loopw [6, 38] (fun o s wr => ∃ k : Nat, k ≤ l.length ∧ s = .int .i64 k ∧ wr.ownsRow W.heap.size 84 2 o (mergeL (l.take k)).length (cellsR (mergeL (l.take k))) ∧ Below W.heap.size W wr) (fun _ s _ => l.length - (intOf s).toNat)
      case atStart => exact ⟨0, by omega, rfl, World.ownsRow_nil _ _ _ _, Below.refl _ _⟩
      case round =>
        obtain ⟨k, hk, rfl, hown, hbel⟩ := hrel
        by_cases hlt : k < l.length
        · obtain ⟨b, off, cap', he, hcap, hbs, hc⟩ := RgAt.at (HO.out.below hbel) (by omega)
          simp only [Value.slice.injEq, true_and] at he
          obtain ⟨rfl, rfl⟩ := he
          obtain ⟨c1, c2⟩ := hc k hlt
          clear hc
          have hbd := HBD.out k
          obtain ⟨r, hr⟩ : ∃ r, r = l[k] := ⟨_, rfl⟩
          rw [← hr] at c1 c2
          have hsnoc : mergeL (l.take (k + 1)) = pushR (mergeL (l.take k)) r := by
            rw [List.take_add_one, List.getElem?_eq_getElem hlt, ← hr]; exact mergeL_snoc _ _
          have hlen := mergeL_len (l.take k)
          rw [List.length_take] at hlen
          clear hr
          have hbe : b ≠ wr.heap.size := by omega
          generalize hM : mergeL (l.take k) = M at hown hsnoc hlen hbd
          clear hM
          have HS := Lib.hid hsnoc
          have HB := Lib.hid hbel
          clear hsnoc hbel
          have hle : W.heap.size ≤ wr.heap.size := HB.out.size
          rcases List.eq_nil_or_concat M with rfl | ⟨M', p, rfl⟩
          · obtain ⟨oa, oc, rfl, _⟩ := (SlAt.of_own hown).shape
            rw [show ([] : List Rg).length = 0 from rfl] at hown ⊢
            go_wp2
            go_quiet (fail)
            go_wp2_with (at_builtin; refine wpList_append2 rfl (.tmp 72) (.tmp 74) 46 rfl W.heap.size 84 i0 (.agg #[.int .i64 0, .int .i64 0]) 16 Try.underlying46 hi hz0 hz1 hz2 rfl _ _ _ rfl (hown.alloc _) _ _ rfl (by simp) rfl rfl (by simp) (by simp; omega) ?_; intro v1 w1 o1 b1 n1)
            refine ⟨⟨k + 1, by omega, by go_num, ?_, (below_drewN (HB.out.alloc hle _) _).trans b1⟩, by simp [intOf]; omega⟩
            rw [HS.out]
            exact o1
          · rw [List.concat_eq_append] at hown HS hlen hbd
            obtain ⟨g, oc, rfl, hgb, hcells⟩ := owns_pos hown (by simp)
            obtain ⟨d1, d2⟩ := cellsR_at (M' ++ [p]) M'.length (by simp)
            have g1 := hcells (M'.length * 2 + 1) (by simp; omega)
            rw [d2] at g1
            simp only [List.getElem_append_right, Nat.le_refl, Nat.sub_self, List.getElem_cons_zero] at g1
            have gf := hown.frozenAt (M'.length * 2 + 1)
            obtain ⟨hb1, hb2⟩ := hbd p (by simp)
            have hgs : g < wr.heap.size := World.block_lt_of_cell? wr _ g1
            have hge : g ≠ wr.heap.size := by omega
            have hML : (M' ++ [p]).length = M'.length + 1 := by simp
            rw [pushR_snoc] at HS
            rw [hML] at hown hlen ⊢
            obtain ⟨m, hm⟩ : ∃ m, m = M'.length := ⟨_, rfl⟩
            rw [← hm] at g1 gf hlen hown ⊢
            have Hm := Lib.hid hm
            clear hm hML d1 d2 hcells
            by_cases ht : r.1 ≤ p.2 + 1
            · have g0 : decide (((m + 1 : Nat) : Int) > 0) = true := by simp
              go_wp2
              have g2 : (wr.alloc (.cells #[.int .i64 r.1, .int .i64 r.2] 84)).cell? ⟨g, m * 2 + 1, none⟩ = some (.int .i64 p.2) := Lib.cell?_alloc_some _ g1
              go_quiet (fail)
              have gf2 : (wr.alloc (.cells #[.int .i64 r.1, .int .i64 r.2] 84)).frozen? ⟨g, m * 2 + 1, none⟩ = false := by rw [frozen?_alloc_cells]; exact gf
              go_wp2
              have q1 : ((wr.alloc (.cells #[.int .i64 r.1, .int .i64 r.2] 84)).drewN nq).cell? ⟨wr.heap.size, 1, none⟩ = some (.int .i64 r.2) := by simp
              have q2 : ((wr.alloc (.cells #[.int .i64 r.1, .int .i64 r.2] 84)).drewN nq).cell? ⟨g, m * 2 + 1, none⟩ = some (.int .i64 p.2) := g2
              have q3 : ((wr.alloc (.cells #[.int .i64 r.1, .int .i64 r.2] 84)).drewN nq).frozen? ⟨g, m * 2 + 1, none⟩ = false := gf2
              have q4 := Try.ownsRow_drewN (hown.alloc (.cells #[.int .i64 r.1, .int .i64 r.2] 84)) nq
              have q5 := Lib.hid (below_drewN (HB.out.alloc hle (.cells #[.int .i64 r.1, .int .i64 r.2] 84)) nq)
              generalize hW2 : (wr.alloc (.cells #[.int .i64 r.1, .int .i64 r.2] 84)).drewN nq = W2 at q1 q2 q3 q4 q5 ⊢
              clear g2 gf2 hW2 g1 gf hown c1 c2
              have Q4 := Lib.hid q4
              clear q4
              go_region
              go_wp2
              have s1 := Q4.out.stored (m * 2 + 1) (.int .i64 (max p.2 r.2))
              refine ⟨⟨k + 1, by omega, by go_num, ?_, below_drewN ((q5.out).setCell (p := ⟨g, m * 2 + 1, none⟩) hgb _) 1⟩, by simp [intOf]; omega⟩
              rw [HS.out, if_pos ht, ← cellsR_last, ← Hm.out, List.length_append, ← Hm.out]
              exact s1.1
            · have g0 : decide (((m + 1 : Nat) : Int) > 0) = true := by simp
              go_wp2
              have g2 : (wr.alloc (.cells #[.int .i64 r.1, .int .i64 r.2] 84)).cell? ⟨g, m * 2 + 1, none⟩ = some (.int .i64 p.2) := Lib.cell?_alloc_some _ g1
              go_quiet (fail)
              go_wp2_with (at_builtin; refine wpList_append2 rfl (.tmp 72) (.tmp 74) 46 rfl W.heap.size 84 i0 (.agg #[.int .i64 0, .int .i64 0]) 16 Try.underlying46 hi hz0 hz1 hz2 rfl _ _ _ rfl (hown.alloc _) _ _ rfl (by simp) rfl rfl (by omega) (by simp; omega) ?_; intro v1 w1 o1 b1 n1)
              refine ⟨⟨k + 1, by omega, by go_num, ?_, (below_drewN (HB.out.alloc hle _) _).trans b1⟩, by simp [intOf]; omega⟩
              rw [HS.out, if_neg (by omega), List.length_append, List.length_append, cellsR_append _ [r], ← Hm.out]
              exact o1
        · obtain rfl : k = l.length := by omega
          rw [List.take_length, HN.out] at hown
          go_wp2
          go_ret
          exact ⟨_, rfl, RgAt.own hown, HW.out.trans (hbel.mono HW.out.size)⟩

/-- it returns the list L, in memory of its own or older, and turns nothing that was there -/
def RetR (L : List Rg) (w : World) (e : Ending) (w' : World) : Prop := ∃ ao cap, e = .returned (.slice ao L.length cap) ∧ RgAt w' (.slice ao L.length cap) L ∧ Below w.heap.size w w'
theorem retR_of {P : Program} {f : FuncId} {args : Array Value} {w : World} {L : List Rg} (h : Calls P f args w fun e w' => ∃ v', e = .returned v' ∧ RgAt w' v' L ∧ Below w.heap.size w w') : Calls P f args w (RetR L w) :=
  h.mono fun e w' ⟨v', he, hr, hb⟩ => by
    obtain ⟨ao, cap, rfl, _⟩ := hr.shape
    exact ⟨ao, cap, he, hr, hb⟩
theorem norm_c (v : Value) (rs : List Rg) (w : World) (h : RgAt w v rs) (hl : rs.length ≤ 4096) : Calls Try.prog 61 #[v] w (RetR (norm rs) w) := retR_of (norm_any v rs w h hl)
def slen : Value → Nat
  | .slice _ n _ => n
  | _ => 0
theorem slen_slice (a : Option Addr) (n c : Nat) : slen (.slice a n c) = n := rfl
end Go.Proofs.Ytkhiogcdamjocaa
