/-
  The laws OpsTable, OpsSides, OpsKnown, walked.
-/
import Derived.Test.YthdjpealdpkggaaDoorPlain
namespace Go.Proofs.YthdjpealdpkggaaDoor
open Go.RowKit

set_option maxHeartbeats 800000 in
theorem opsTable_any (n : ByteArray) (w : World) (hT : TabW w) :
    Calls Tryd.prog 4 #[.string n] w fun e w' => e = .returned (.bool true) ∧ Below w.heap.size w w' := by
  by_cases hs : n.size ≤ 4096
  · obtain ⟨⟨p, l, r, is⟩, h4⟩ : ∃ x, refInfix n = x := ⟨_, rfl⟩
    obtain ⟨⟨a, b, c⟩, h3⟩ : ∃ x, refPrefix n = x := ⟨_, rfl⟩
    have H4 := Lib.hid h4
    have H3 := Lib.hid h3
    have HT := Lib.hid hT
    clear h4 h3 hT
    have hB := Below.refl w.heap.size w
    go_enter Tryd.func4, Tryd.ntmps4
    go_wp2_with (first
      | (go_at_call 6; refine (carry (infix_c _ _ (HT.out.below hB) _ _ _ _ H4.out) hB).mono ?_; clear hB; rintro e w' ⟨rfl, hB⟩)
      | (go_at_call 8; refine (carry (prefix_c _ _ (HT.out.below hB) _ _ _ H3.out) hB).mono ?_; clear hB; rintro e w' ⟨rfl, hB⟩)
      | (go_at_call 7; refine (carry (refInfix_c _ _ _ _ _ _ H4.out) hB).mono ?_; clear hB; rintro e w' ⟨rfl, hB⟩)
      | (go_at_call 9; refine (carry (refPrefix_c _ _ _ _ _ H3.out) hB).mono ?_; clear hB; rintro e w' ⟨rfl, hB⟩))
    all_goals go_ret
    all_goals exact ⟨by simp, by assumption⟩
  · go_enter Tryd.func4, Tryd.ntmps4
    go_wp2
    go_ret
    exact ⟨rfl, Below.refl _ _⟩

set_option maxHeartbeats 800000 in
theorem opsSides_any (n : ByteArray) (w : World) (hT : TabW w) :
    Calls Tryd.prog 3 #[.string n] w fun e w' => e = .returned (.bool true) ∧ Below w.heap.size w w' := by
  by_cases hs : n.size ≤ 4096
  · obtain ⟨⟨p, l, r, is⟩, h4⟩ : ∃ x, refInfix n = x := ⟨_, rfl⟩
    obtain ⟨s1, s2⟩ := sides_plain n p l r is h4
    have H4 := Lib.hid h4
    have HT := Lib.hid hT
    clear h4 hT
    have hB := Below.refl w.heap.size w
    cases is
    · obtain ⟨rfl, rfl, rfl⟩ := s1 rfl
      clear s1 s2
      go_enter Tryd.func3, Tryd.ntmps3
      go_wp2_with (first
        | (go_at_call 6; refine (carry (infix_c _ _ (HT.out.below hB) _ _ _ _ H4.out) hB).mono ?_; clear hB; rintro e w' ⟨rfl, hB⟩)
        | (go_at_call 7; refine (carry (refInfix_c _ _ _ _ _ _ H4.out) hB).mono ?_; clear hB; rintro e w' ⟨rfl, hB⟩))
      go_ret
      exact ⟨rfl, by assumption⟩
    · obtain ⟨g1, g2, g3, g4, g5, g6, g7⟩ := s2 rfl
      clear s1 s2
      have g7' : Hid (l + r < 2 * p) := g7
      go_enter Tryd.func3, Tryd.ntmps3
      go_wp2_with (first
        | (go_at_call 6; refine (carry (infix_c _ _ (HT.out.below hB) _ _ _ _ H4.out) hB).mono ?_; clear hB; rintro e w' ⟨rfl, hB⟩)
        | (go_at_call 7; refine (carry (refInfix_c _ _ _ _ _ _ H4.out) hB).mono ?_; clear hB; rintro e w' ⟨rfl, hB⟩))
      all_goals go_ret
      all_goals exact ⟨ret_bool (by simp), by assumption⟩
  · go_enter Tryd.func3, Tryd.ntmps3
    go_wp2
    go_ret
    exact ⟨rfl, Below.refl _ _⟩

def known : List (List UInt8) := [[58, 45], [59], [45, 62], [44], [35, 60, 61, 62], [61], [92, 61], [61, 61], [92, 61, 61], [64, 60], [64, 62], [64, 61, 60], [64, 62, 61], [105, 115], [61, 58, 61], [61, 92, 61], [60], [62], [61, 60], [62, 61], [61, 46, 46], [35, 61], [35, 92, 61], [35, 60], [35, 62], [35, 61, 60], [35, 62, 61], [105, 110], [92, 47], [46, 46], [43], [45], [42], [47, 47], [114, 101, 109], [109, 111, 100], [100, 105, 118], [94]]
def knownP : List (List UInt8) := [[58, 45], [92, 43], [43], [45]]
theorem known_all : known.all (fun l => (refInfixL l).2.2.2 && decide (l.length ≤ 4)) = true := by decide +kernel
theorem knownP_all : knownP.all (fun l => (refPrefixL l).2.2) = true := by decide +kernel
theorem knownP_at (k : Nat) (hk : k < 4) : ∃ s : ByteArray, (knownP.map bstr)[k]? = some (.string s) ∧ (refPrefix s).2.2 = true := by
  have hk' : k < knownP.length := hk
  have := List.all_eq_true.1 knownP_all _ (List.getElem_mem hk')
  exact ⟨⟨knownP[k].toArray⟩, by simp [bstr, hk'], by show (refPrefixL (ByteArray.toList ⟨_⟩)).2.2 = true; rw [ByteArray.toList_eq]; exact this⟩
theorem known_at (k : Nat) (hk : k < 38) : ∃ s : ByteArray, (known.map bstr)[k]? = some (.string s) ∧ (refInfix s).2.2.2 = true ∧ s.size ≤ 4 := by
  have hk' : k < known.length := hk
  have := List.all_eq_true.1 known_all _ (List.getElem_mem hk')
  simp only [Bool.and_eq_true, decide_eq_true_eq] at this
  exact ⟨⟨known[k].toArray⟩, by simp [bstr, hk'], by show (refInfixL (ByteArray.toList ⟨_⟩)).2.2.2 = true; rw [ByteArray.toList_eq]; exact this.1, this.2⟩


/-- the list L lies at block g; the table is there; what was there is there -/
structure Lies (w : World) (g : Nat) (L : List (List UInt8)) (wr : World) : Prop where
  cells : ∀ k, k < L.length → wr.cell? ⟨g, k, none⟩ = (L.map bstr)[k]?
  tab : TabW wr
  below : Below w.heap.size w wr

theorem Lies.step {w wr w' : World} {g : Nat} {L : List (List UInt8)} (h : Lies w g L wr) (hb : Below wr.heap.size wr w') : Lies w g L w' := by
  refine ⟨fun k hk => ?_, h.tab.below hb, h.below.trans (hb.mono h.below.size)⟩
  have h1 := h.cells k hk
  have h2 : (L.map bstr)[k]? = some (bstr L[k]) := by simp [hk]
  have hg := World.block_lt_of_cell? wr ⟨g, k, none⟩ (h1.trans h2)
  exact (hb.cell (p := ⟨g, k, none⟩) hg).trans h1
theorem Lies.start {w wr : World} (L : List (List UInt8)) (h : TabW wr) (hb : Below w.heap.size w wr) : Lies w wr.heap.size L (wr.alloc (.cells (L.map bstr).toArray 9)) := by
  refine ⟨fun k hk => ?_, h.below ((Below.refl _ _).alloc (Nat.le_refl _) _), hb.alloc hb.size _⟩
  rw [cell_of_row _ _ _ _ _ (0, 0) (heap_alloc_new wr _)]
  simp
theorem Lies.call {P : Program} {f : FuncId} {args : Array Value} {w wr : World} {x : Ending} {g : Nat} {L : List (List UInt8)} (h : Lies w g L wr) (hc : Calls P f args wr fun e w' => e = x ∧ Below wr.heap.size wr w') :
    Calls P f args wr fun e w' => e = x ∧ Lies w g L w' :=
  hc.mono fun _ _ ⟨he, hb⟩ => ⟨he, h.step hb⟩

set_option maxRecDepth 100000 in
set_option maxHeartbeats 3200000 in
theorem opsKnown_any (n : ByteArray) (w : World) (hT : TabW w) :
    Calls Tryd.prog 5 #[.string n] w fun e w' => e = .returned (.bool true) ∧ Below w.heap.size w w' := by
  by_cases hs : n.size ≤ 1024
  · have HK := Lib.hid (Lies.start known hT (Below.refl _ _))
    clear hT
    go_enter Tryd.func5, Tryd.ntmps5
    go_wp2
    go_loopw [4] (fun i wr => ∃ k : Nat, k ≤ 38 ∧ i = .int .i64 k ∧ Lies w w.heap.size known wr) (fun i _ => 38 - (intOf i).toNat)
    case atStart => exact ⟨0, by omega, rfl, HK.out⟩
    case round =>
      obtain ⟨k, hk, rfl, hR⟩ := hrel
      clear HK
      by_cases hlt : k < 38
      · obtain ⟨s, hs1, hs2, hs3⟩ := known_at k hlt
        have HC : Hid (∀ wr, Lies w w.heap.size known wr → wr.cell? ⟨w.heap.size, k, none⟩ = some (.string s)) := fun wr h => (h.cells k hlt).trans hs1
        have hc := HC.out _ hR
        obtain ⟨⟨p, l, r, is⟩, h4⟩ : ∃ x, refInfix s = x := ⟨_, rfl⟩
        obtain rfl : is = true := by rw [h4] at hs2; exact hs2
        obtain ⟨⟨p', l', r', is'⟩, h5⟩ : ∃ x, refInfix (s ++ n) = x := ⟨_, rfl⟩
        have H4 := Lib.hid h4
        have H5 := Lib.hid h5
        clear h4 h5 hs1 hs2
        go_wp2_with (first
          | (go_at_call 6; ((with_reducible refine (hR.call (infix_c _ _ hR.tab _ _ _ _ H4.out)).mono ?_); clear hR hc; rintro e w' ⟨rfl, hR⟩; have hc := HC.out _ hR))
          | (go_at_call 6; ((with_reducible refine (hR.call (infix_c _ _ hR.tab _ _ _ _ H5.out)).mono ?_); clear hR hc; rintro e w' ⟨rfl, hR⟩; have hc := HC.out _ hR))
          | (go_at_call 7; ((with_reducible refine (hR.call (refInfix_c _ _ _ _ _ _ H4.out)).mono ?_); clear hR hc; rintro e w' ⟨rfl, hR⟩; have hc := HC.out _ hR))
          | (go_at_call 7; ((with_reducible refine (hR.call (refInfix_c _ _ _ _ _ _ H5.out)).mono ?_); clear hR hc; rintro e w' ⟨rfl, hR⟩; have hc := HC.out _ hR)))
        go_roundw
        case rel => exact ⟨k + 1, by omega, by go_num, hR⟩
        case measure => simp [intOf]; omega
      · obtain ⟨wo, rfl⟩ : ∃ wo : World, wo = wr := ⟨_, rfl⟩
        have HK := Lib.hid (Lies.start knownP hR.tab hR.below)
        clear hR
        go_wp2
        go_loopw [22] (fun i w2 => ∃ k : Nat, k ≤ 4 ∧ i = .int .i64 k ∧ Lies w wo.heap.size knownP w2) (fun i _ => 4 - (intOf i).toNat)
        case atStart => exact ⟨0, by omega, rfl, HK.out⟩
        case round =>
          obtain ⟨k, hk, rfl, hR⟩ := hrel
          clear HK
          by_cases hlt : k < 4
          · obtain ⟨s, hs1, hs2⟩ := knownP_at k hlt
            have HC : Hid (∀ w2, Lies w wo.heap.size knownP w2 → w2.cell? ⟨wo.heap.size, k, none⟩ = some (.string s)) := fun w2 h => (h.cells k hlt).trans hs1
            have hc := HC.out _ hR
            obtain ⟨⟨p, l, is⟩, h4⟩ : ∃ x, refPrefix s = x := ⟨_, rfl⟩
            obtain rfl : is = true := by rw [h4] at hs2; exact hs2
            have H4 := Lib.hid h4
            clear h4 hs1 hs2
            go_wp2_with (first
              | (go_at_call 8; ((with_reducible refine (hR.call (prefix_c _ _ hR.tab _ _ _ H4.out)).mono ?_); clear hR hc; rintro e w' ⟨rfl, hR⟩; have hc := HC.out _ hR))
              | (go_at_call 9; ((with_reducible refine (hR.call (refPrefix_c _ _ _ _ _ H4.out)).mono ?_); clear hR hc; rintro e w' ⟨rfl, hR⟩; have hc := HC.out _ hR)))
            go_roundw
            case rel => exact ⟨k + 1, by omega, by go_num, hR⟩
            case measure => simp [intOf]; omega
          · obtain ⟨⟨p, l, is⟩, h4⟩ : ∃ x, refPrefix (⟨#[42]⟩ ++ n) = x := ⟨_, rfl⟩
            have H4 := Lib.hid h4
            clear h4
            go_wp2_with (first
              | (go_at_call 8; ((with_reducible refine (hR.call (prefix_c _ _ hR.tab _ _ _ H4.out)).mono ?_); clear hR; rintro e w' ⟨rfl, hR⟩))
              | (go_at_call 9; ((with_reducible refine (hR.call (refPrefix_c _ _ _ _ _ H4.out)).mono ?_); clear hR; rintro e w' ⟨rfl, hR⟩)))
            go_ret
            exact ⟨ret_bool (by simp), hR.below⟩
  · go_enter Tryd.func5, Tryd.ntmps5
    go_wp2
    go_ret
    exact ⟨rfl, Below.refl _ _⟩
end Go.Proofs.YthdjpealdpkggaaDoor
