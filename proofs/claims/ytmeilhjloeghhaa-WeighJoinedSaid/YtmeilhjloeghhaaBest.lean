/-
  weigh.Best, walked.
-/
import Derived.Test.YtmeilhjloeghhaaLess
import Derived.Test.YtmeilhjloeghhaaReg
namespace Go.Proofs.Ytmeilhjloeghhaa
open Go.RowKit

/-- a list of floats -/
def FlAt (w : World) (v : Value) (bs : List Nat) : Prop := SlAt w 1 v bs.length (bs.map (Value.float .f64)) ∧ ∀ b ∈ bs, b < 2 ^ 64
def BoAt (w : World) (v : Value) (bs : List Bool) : Prop := SlAt w 1 v bs.length (bs.map Value.bool)
theorem FlAt.below {w w' : World} {v : Value} {zs : List Nat} (h : FlAt w v zs) (hb : Below w.heap.size w w') : FlAt w' v zs := ⟨SlAt.below h.1 hb, h.2⟩
theorem BoAt.below {w w' : World} {v : Value} {zs : List Bool} (h : BoAt w v zs) (hb : Below w.heap.size w w') : BoAt w' v zs := SlAt.below h hb
theorem FlAt.at {w : World} {v : Value} {zs : List Nat} (h : FlAt w v zs) (hp : 0 < zs.length) :
    ∃ b off cap, v = .slice (some ⟨b, off, none⟩) zs.length cap ∧ zs.length ≤ cap ∧ b < w.heap.size ∧ ∀ j, (hj : j < zs.length) → w.cell? ⟨b, off + j, none⟩ = some (.float .f64 zs[j]) := by
  obtain ⟨b, off, cap, rfl, h1, _, h2, h3⟩ := SlAt.pos h.1 (by omega)
  exact ⟨b, off, cap, rfl, h1, h2, fun j hj => by rw [h3 j (by omega)]; simp [hj]⟩
theorem BoAt.at {w : World} {v : Value} {zs : List Bool} (h : BoAt w v zs) (hp : 0 < zs.length) :
    ∃ b off cap, v = .slice (some ⟨b, off, none⟩) zs.length cap ∧ zs.length ≤ cap ∧ b < w.heap.size ∧ ∀ j, (hj : j < zs.length) → w.cell? ⟨b, off + j, none⟩ = some (.bool zs[j]) := by
  obtain ⟨b, off, cap, rfl, h1, _, h2, h3⟩ := SlAt.pos h (by omega)
  exact ⟨b, off, cap, rfl, h1, h2, fun j hj => by rw [h3 j (by omega)]; simp [hj]⟩

/-- the keys of a list -/
def keyAt (bs : List Nat) (i : Nat) : Option Int := wk (bs.getD i 0)
/-- the best place of the first k that are not skipped -/
def bestI (ks : Nat → Option Int) (sk : Nat → Bool) : Nat → Option Nat
  | 0 => none
  | k + 1 => if sk k = true then bestI ks sk k else match bestI ks sk k with
    | none => some k
    | some b => if lessK (ks k) (ks b) = true then some k else some b
def toI : Option Nat → Int | none => -1 | some k => (k : Int)
theorem bestI_lt (ks : Nat → Option Int) (sk : Nat → Bool) : ∀ k b, bestI ks sk k = some b → b < k
  | 0, b, h => by simp [bestI] at h
  | k + 1, b, h => by
    have ih := bestI_lt ks sk k
    unfold bestI at h
    split at h
    · have := ih b h; omega
    · split at h
      · injection h with h; omega
      · rename_i b' hb
        have := ih b' hb
        split at h <;> (injection h with h; omega)
def skipAt (sk : List Bool) (i : Nat) : Bool := sk.getD i false

set_option maxHeartbeats 1600000 in
theorem best_any (v vs : Value) (bs : List Nat) (sk : List Bool) (w : World) (h : FlAt w v bs) (hs : BoAt w vs sk) (hl : bs.length ≤ 4096) (hl2 : sk.length ≤ 4096) :
    Calls Try.prog 12 #[v, vs] w fun e w' => e = .returned (.int .i64 (toI (bestI (keyAt bs) (skipAt sk) bs.length))) ∧ Below w.heap.size w w' := by
  obtain ⟨ao, cap, rfl, _⟩ := h.1.shape
  obtain ⟨asl, caps, rfl, _⟩ := hs.shape
  have H := Lib.hid h
  have HS := Lib.hid hs
  clear h hs
  go_enter Try.func12, Try.ntmps12
  go_wp2
  go_loopw [5, 9] (fun b i wr => ∃ k q : Nat, k ≤ bs.length ∧ i = .int .i64 k ∧ b = .int .i64 (toI (bestI (keyAt bs) (skipAt sk) k)) ∧ wr = w.drewN q) (fun _ i _ => bs.length - (intOf i).toNat)
  case atStart => exact ⟨0, 0, by omega, rfl, rfl, rfl⟩
  case round =>
    obtain ⟨k, q, hk, rfl, rfl, rfl⟩ := hrel
    by_cases hlt : k < bs.length
    · obtain ⟨b, off, cap', he, hcap, _, hc⟩ := FlAt.at H.out (by omega)
      simp only [Value.slice.injEq, true_and] at he
      obtain ⟨rfl, rfl⟩ := he
      have hbk : bs[k] < 2 ^ 64 := H.out.2 _ (List.getElem_mem hlt)
      obtain ⟨x, hx⟩ : ∃ x, x = bs[k] := ⟨_, rfl⟩
      have hcell := hc k hlt
      rw [← hx] at hcell hbk
      have HX : Hid (keyAt bs k = wk x) := by show _ = _; rw [keyAt, hx]; simp [hlt]
      have HBK := Lib.hid hbk
      have HC := Lib.hid hc
      clear hc hx hbk
      cases hsk : skipAt sk k with
      | true =>
        have hks : k < sk.length := by
          rcases Nat.lt_or_ge k sk.length with h | h
          · exact h
          · simp [skipAt, List.getElem?_eq_none h] at hsk
        obtain ⟨bb, offb, capb, he, hcapb, _, hcb⟩ := BoAt.at HS.out (by omega)
        simp only [Value.slice.injEq, true_and] at he
        obtain ⟨rfl, rfl⟩ := he
        have hcb' := hcb k hks
        rw [show sk[k] = true by simpa [skipAt, hks] using hsk] at hcb'
        have HN : Hid (bestI (keyAt bs) (skipAt sk) (k + 1) = bestI (keyAt bs) (skipAt sk) k) := by show _ = _; simp [bestI, hsk]
        clear hcb hsk
        go_wp2
        go_roundw
        case rel => exact ⟨k + 1, q, by omega, by go_num, by rw [HN.out], rfl⟩
        case measure => simp [intOf]; omega
      | false =>
        cases hbi : bestI (keyAt bs) (skipAt sk) k with
        | none =>
          have HN : Hid (bestI (keyAt bs) (skipAt sk) (k + 1) = some k) := by show _ = _; simp [bestI, hsk, hbi]
          clear hcell
          have hm1 : toI none = -1 := rfl
          by_cases hks : k < sk.length
          · obtain ⟨bb, offb, capb, he, hcapb, _, hcb⟩ := BoAt.at HS.out (by omega)
            simp only [Value.slice.injEq, true_and] at he
            obtain ⟨rfl, rfl⟩ := he
            have hcb' := hcb k hks
            rw [show sk[k] = false by simpa [skipAt, hks] using hsk] at hcb'
            clear hcb
            clear hsk hbi
            go_wp2
            go_quiet (fail)
            go_wp2
            go_roundw
            case rel => exact ⟨k + 1, _, by omega, by go_num, (by rw [HN.out]; rfl), rfl⟩
            case measure => simp [intOf]; omega
          · clear hsk hbi
            go_wp2
            go_quiet (fail)
            go_wp2
            go_roundw
            case rel => exact ⟨k + 1, _, by omega, by go_num, (by rw [HN.out]; rfl), rfl⟩
            case measure => simp [intOf]; omega
        | some m =>
          have hm : m < k := bestI_lt _ _ _ _ hbi
          have hmb : m < bs.length := by omega
          have hcm := HC.out m (by omega)
          have hbm : bs[m] < 2 ^ 64 := H.out.2 _ (List.getElem_mem (by omega))
          obtain ⟨y, hy⟩ : ∃ y, y = bs[m] := ⟨_, rfl⟩
          rw [← hy] at hcm hbm
          have HY : Hid (keyAt bs m = wk y) := by show _ = _; rw [keyAt, hy]; simp [show m < bs.length by omega]
          have hm1 : toI (some m) = (m : Int) := rfl
          have CL0 : Hid (∀ w, Calls Try.prog 10 #[.float .f64 x, .float .f64 y] w fun e w' => e = .returned (.bool (lessK (wk x) (wk y))) ∧ w = w') := fun w => less_any x y w HBK.out hbm
          clear hy hbm
          cases hll : lessK (wk x) (wk y) with
          | true =>
            have HN : Hid (bestI (keyAt bs) (skipAt sk) (k + 1) = some k) := by show _ = _; simp [bestI, hsk, hbi, HX.out, HY.out, hll]
            have CL : Hid (∀ w, Calls Try.prog 10 #[.float .f64 x, .float .f64 y] w fun e w' => e = .returned (.bool true) ∧ w = w') := fun w => by rw [← hll]; exact CL0.out w
            clear hll CL0
            by_cases hks : k < sk.length
            · obtain ⟨bb, offb, capb, he, hcapb, _, hcb⟩ := BoAt.at HS.out (by omega)
              simp only [Value.slice.injEq, true_and] at he
              obtain ⟨rfl, rfl⟩ := he
              have hcb' := hcb k hks
              rw [show sk[k] = false by simpa [skipAt, hks] using hsk] at hcb'
              clear hcb
              clear hsk hbi
              go_wp2
              go_quiet ((go_at_call 10; exact quiet_same ⟨_, rfl⟩ (CL.out _)))
              go_wp2
              go_roundw
              case rel => exact ⟨k + 1, _, by omega, by go_num, (by rw [HN.out]; rfl), rfl⟩
              case measure => simp [intOf]; omega
            · clear hsk hbi
              go_wp2
              go_quiet ((go_at_call 10; exact quiet_same ⟨_, rfl⟩ (CL.out _)))
              go_wp2
              go_roundw
              case rel => exact ⟨k + 1, _, by omega, by go_num, (by rw [HN.out]; rfl), rfl⟩
              case measure => simp [intOf]; omega
          | false =>
            have HN : Hid (bestI (keyAt bs) (skipAt sk) (k + 1) = some m) := by show _ = _; simp [bestI, hsk, hbi, HX.out, HY.out, hll]
            have CL : Hid (∀ w, Calls Try.prog 10 #[.float .f64 x, .float .f64 y] w fun e w' => e = .returned (.bool false) ∧ w = w') := fun w => by rw [← hll]; exact CL0.out w
            clear hll CL0
            by_cases hks : k < sk.length
            · obtain ⟨bb, offb, capb, he, hcapb, _, hcb⟩ := BoAt.at HS.out (by omega)
              simp only [Value.slice.injEq, true_and] at he
              obtain ⟨rfl, rfl⟩ := he
              have hcb' := hcb k hks
              rw [show sk[k] = false by simpa [skipAt, hks] using hsk] at hcb'
              clear hcb
              clear hsk hbi
              go_wp2
              go_quiet ((go_at_call 10; exact quiet_same ⟨_, rfl⟩ (CL.out _)))
              go_wp2
              go_roundw
              case rel => exact ⟨k + 1, _, by omega, by go_num, (by rw [HN.out]; rfl), rfl⟩
              case measure => simp [intOf]; omega
            · clear hsk hbi
              go_wp2
              go_quiet ((go_at_call 10; exact quiet_same ⟨_, rfl⟩ (CL.out _)))
              go_wp2
              go_roundw
              case rel => exact ⟨k + 1, _, by omega, by go_num, (by rw [HN.out]; rfl), rfl⟩
              case measure => simp [intOf]; omega
    · obtain rfl : k = bs.length := by omega
      go_wp2
      go_ret
      exact ⟨rfl, below_drewN (Below.refl _ _) _⟩
end Go.Proofs.Ytmeilhjloeghhaa
