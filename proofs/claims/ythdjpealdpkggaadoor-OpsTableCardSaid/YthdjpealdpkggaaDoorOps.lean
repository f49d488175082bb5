/-
  ops.side, ops.Infix and ops.Prefix, walked over the table.
-/
import Derived.Test.YthdjpealdpkggaaDoorRows
import Derived.Test.YthdjpealdpkggaaDoorLib
import Derived.Deep.QuietTactic
import Derived.BigQuiet
namespace Go.Proofs.YthdjpealdpkggaaDoor
open Go.RowKit

def tab : List (List UInt8 × List UInt8 × Int) := [
  ([58, 45], [120, 102, 120], 1200),
  ([58, 45], [102, 120], 1200),
  ([59], [120, 102, 121], 1100),
  ([45, 62], [120, 102, 121], 1050),
  ([44], [120, 102, 121], 1000),
  ([92, 43], [102, 121], 900),
  ([35, 60, 61, 62], [120, 102, 120], 760),
  ([61], [120, 102, 120], 700),
  ([92, 61], [120, 102, 120], 700),
  ([61, 61], [120, 102, 120], 700),
  ([92, 61, 61], [120, 102, 120], 700),
  ([64, 60], [120, 102, 120], 700),
  ([64, 62], [120, 102, 120], 700),
  ([64, 61, 60], [120, 102, 120], 700),
  ([64, 62, 61], [120, 102, 120], 700),
  ([105, 115], [120, 102, 120], 700),
  ([61, 58, 61], [120, 102, 120], 700),
  ([61, 92, 61], [120, 102, 120], 700),
  ([60], [120, 102, 120], 700),
  ([62], [120, 102, 120], 700),
  ([61, 60], [120, 102, 120], 700),
  ([62, 61], [120, 102, 120], 700),
  ([61, 46, 46], [120, 102, 120], 700),
  ([35, 61], [120, 102, 120], 700),
  ([35, 92, 61], [120, 102, 120], 700),
  ([35, 60], [120, 102, 120], 700),
  ([35, 62], [120, 102, 120], 700),
  ([35, 61, 60], [120, 102, 120], 700),
  ([35, 62, 61], [120, 102, 120], 700),
  ([105, 110], [120, 102, 120], 700),
  ([92, 47], [121, 102, 120], 550),
  ([46, 46], [120, 102, 120], 450),
  ([43], [121, 102, 120], 500),
  ([45], [121, 102, 120], 500),
  ([43], [102, 121], 200),
  ([45], [102, 121], 200),
  ([42], [121, 102, 120], 400),
  ([47, 47], [121, 102, 120], 400),
  ([114, 101, 109], [121, 102, 120], 400),
  ([109, 111, 100], [121, 102, 120], 400),
  ([100, 105, 118], [121, 102, 120], 400),
  ([94], [120, 102, 121], 200)]

/-- the world holds the table -/
def TabW (w : World) : Prop := ∀ (k : Nat) (r : List UInt8 × List UInt8 × Int), tab[k]? = some r →
  w.cell? ⟨0, k * 3, none⟩ = some (.string ⟨r.1.toArray⟩) ∧ w.cell? ⟨0, k * 3 + 1, none⟩ = some (.string ⟨r.2.1.toArray⟩) ∧ w.cell? ⟨0, k * 3 + 2, none⟩ = some (.int .i64 r.2.2)

def sideI (c : UInt8) (p : Int) : Int := if c = 120 then p - 1 else p

theorem side_any (c : UInt8) (p : Int) (w : World) (hp : 0 ≤ p ∧ p ≤ 1200) :
    Calls Tryd.prog 10 #[.int .u8 c.toNat, .int .i64 p] w fun e w' => e = .returned (.int .i64 (sideI c p)) ∧ w = w' := by
  by_cases h : c = 120
  · have h1 : ((c.toNat : Int) == 120) = true := by rw [h]; rfl
    have hs : Hid (sideI c p = p - 1) := by show _ = _; simp [sideI, h]
    clear h
    go_enter Tryd.func10, Tryd.ntmps10
    go_wp2
    go_ret
    exact ⟨ret_int (by rw [hs.out]), rfl⟩
  · have h1 : ((c.toNat : Int) == 120) = false := by
      rw [beq_eq_false_iff_ne]; intro h2; apply h; apply UInt8.toNat_inj.1; show _ = 120; omega
    have hs : Hid (sideI c p = p) := by show _ = _; simp [sideI, h]
    clear h
    go_enter Tryd.func10, Tryd.ntmps10
    go_wp2
    go_ret
    exact ⟨ret_int (by rw [hs.out]), rfl⟩

def rowIs (len : Nat) (n : List UInt8) (r : List UInt8 × List UInt8 × Int) : Bool := r.1 == n && r.2.1.length == len
def findRow (len : Nat) (n : List UInt8) : Option (List UInt8 × List UInt8 × Int) := tab.find? (rowIs len n)
def infixOf (n : ByteArray) : Int × Int × Int × Bool :=
  match findRow 3 n.toList with
  | some r => (r.2.2, sideI (r.2.1.getD 0 0) r.2.2, sideI (r.2.1.getD 2 0) r.2.2, true)
  | none => (0, 0, 0, false)
def prefixOf (n : ByteArray) : Int × Int × Bool :=
  match findRow 2 n.toList with
  | some r => (r.2.2, sideI (r.2.1.getD 1 0) r.2.2, true)
  | none => (0, 0, false)
def tup4o (x : Int × Int × Int × Bool) : Value := .tuple #[.int .i64 x.1, .int .i64 x.2.1, .int .i64 x.2.2.1, .bool x.2.2.2]
def tup3o (x : Int × Int × Bool) : Value := .tuple #[.int .i64 x.1, .int .i64 x.2.1, .bool x.2.2]

theorem find_take_none {α : Type} (p : α → Bool) (L : List α) (k : Nat) (r : α) (hr : L[k]? = some r) (h : (L.take k).find? p = none) (hp : p r = false) : (L.take (k + 1)).find? p = none := by
  obtain ⟨hk, rfl⟩ := List.getElem?_eq_some_iff.1 hr
  rw [List.take_succ_eq_append_getElem hk, List.find?_append, h]
  simp [hp]
theorem find_take_some {α : Type} (p : α → Bool) (L : List α) (k : Nat) (r : α) (hr : L[k]? = some r) (h : (L.take k).find? p = none) (hp : p r = true) : L.find? p = some r := by
  obtain ⟨hk, rfl⟩ := List.getElem?_eq_some_iff.1 hr
  have e : L.find? p = (L.take k ++ L.drop k).find? p := by rw [List.take_append_drop]
  rw [e, List.find?_append, h, List.drop_eq_getElem_cons hk]
  simp [List.find?, hp]
theorem three {α : Type} (l : List α) (h : l.length = 3) : ∃ a b c, l = [a, b, c] := by
  match l, h with
  | [a, b, c], _ => exact ⟨a, b, c, rfl⟩
theorem two {α : Type} (l : List α) (h : l.length = 2) : ∃ a b, l = [a, b] := by
  match l, h with
  | [a, b], _ => exact ⟨a, b, rfl⟩
theorem tab_p (k : Nat) (r : List UInt8 × List UInt8 × Int) (h : tab[k]? = some r) : 0 ≤ r.2.2 ∧ r.2.2 ≤ 1200 := by
  have hm := List.mem_of_getElem? h
  have ha : tab.all (fun r => decide (0 ≤ r.2.2 ∧ r.2.2 ≤ 1200)) = true := by decide
  have := List.all_eq_true.1 ha r hm
  simpa using this

set_option maxHeartbeats 800000 in
theorem infix_any (name : ByteArray) (w : World) (hT : TabW w) :
    Calls Tryd.prog 6 #[.string name] w fun e w' => ∃ q, e = .returned (tup4o (infixOf name)) ∧ w' = w.drewN q := by
  have HT := Lib.hid hT
  clear hT
  go_enter Tryd.func6, Tryd.ntmps6
  go_wp2
  go_loopw [9] (fun i wr => ∃ k n : Nat, k ≤ 42 ∧ i = .int .i64 k ∧ wr = w.drewN n ∧ (tab.take k).find? (rowIs 3 name.toList) = none) (fun i _ => 42 - (intOf i).toNat)
  case atStart => exact ⟨0, 0, by omega, rfl, rfl, rfl⟩
  case round =>
    obtain ⟨k, n, hk, rfl, rfl, hnot⟩ := hrel
    have HN := Lib.hid hnot
    clear hnot
    by_cases hlt : k < 42
    · obtain ⟨r, hr⟩ : ∃ r, tab[k]? = some r := ⟨tab[k], by simp [tab, hlt]⟩
      obtain ⟨c0, c1, c2⟩ := HT.out k r hr
      have hp := tab_p k r hr
      have HR := Lib.hid hr
      clear hr
      obtain ⟨nm, kd, p⟩ := r
      dsimp only at c0 c1 c2 hp
      cases he : (nm == name.toList)
      · have HS := Lib.hid (find_take_none _ _ _ _ HR.out HN.out (by simp [rowIs, he]))
        go_wp2
        go_quiet (fail)
        go_wp2
        go_roundw
        case rel => exact ⟨k + 1, _, by omega, by go_num, rfl, HS.out⟩
        case measure => simp [intOf]; omega
      · by_cases h3 : kd.length = 3
        · have HS := Lib.hid (find_take_some _ _ _ _ HR.out HN.out (by simp [rowIs, he, h3]))
          obtain ⟨a, b, c, rfl⟩ := three kd h3
          clear h3
          obtain ⟨kb, hkb⟩ : ∃ kb : ByteArray, kb = ⟨[a, b, c].toArray⟩ := ⟨_, rfl⟩
          rw [← hkb] at c1
          have h31 : ((kb.size : Int) == 3) = true := by rw [hkb]; rfl
          have h0 : 0 < kb.size := by rw [hkb]; show _ < 3; decide
          have h2 : 2 < kb.size := by rw [hkb]; show _ < 3; decide
          have h22 : (2 : Int) < (kb.size : Int) := by omega
          have HA : Hid (kb[0]'h0 = a) := by show _ = _; subst hkb; rfl
          have HC : Hid (kb[2]'h2 = c) := by show _ = _; subst hkb; rfl
          clear hkb
          go_wp2
          go_quiet (fail)
          go_wp2
          go_quiet ((go_at_call 10; exact quiet_same ⟨_, rfl⟩ (side_any _ _ _ hp)))
          go_wp2
          refine bodyPost_ret (v := tup4o (infixOf name)) ?_ rfl ⟨_, rfl, World.drewN_drewN _ _ _⟩
          have h5 := HS.out
          have h6 := HA.out
          have h7 := HC.out
          simp [results, Tryd.results6, go_sem, tup4o, infixOf, findRow, h5, h6, h7]
        · have HS := Lib.hid (find_take_none _ _ _ _ HR.out HN.out (by simp [rowIs, h3]))
          have h31 : ((kd.length : Int) == 3) = false := by simp; omega
          go_wp2
          go_quiet (fail)
          go_wp2
          go_roundw
          case rel => exact ⟨k + 1, _, by omega, by go_num, rfl, HS.out⟩
          case measure => simp [intOf]; omega
    · have HS : Hid (tab.find? (rowIs 3 name.toList) = none) := by have := HN.out; rwa [List.take_of_length_le (by simp [tab]; omega)] at this
      go_wp2
      refine bodyPost_ret (v := tup4o (infixOf name)) ?_ rfl ⟨_, rfl, rfl⟩
      have := HS.out
      simp [results, Tryd.results6, go_sem, tup4o, infixOf, findRow, this]

set_option maxHeartbeats 800000 in
theorem prefix_any (name : ByteArray) (w : World) (hT : TabW w) :
    Calls Tryd.prog 8 #[.string name] w fun e w' => ∃ q, e = .returned (tup3o (prefixOf name)) ∧ w' = w.drewN q := by
  have HT := Lib.hid hT
  clear hT
  go_enter Tryd.func8, Tryd.ntmps8
  go_wp2
  go_loopw [8] (fun i wr => ∃ k n : Nat, k ≤ 42 ∧ i = .int .i64 k ∧ wr = w.drewN n ∧ (tab.take k).find? (rowIs 2 name.toList) = none) (fun i _ => 42 - (intOf i).toNat)
  case atStart => exact ⟨0, 0, by omega, rfl, rfl, rfl⟩
  case round =>
    obtain ⟨k, n, hk, rfl, rfl, hnot⟩ := hrel
    have HN := Lib.hid hnot
    clear hnot
    by_cases hlt : k < 42
    · obtain ⟨r, hr⟩ : ∃ r, tab[k]? = some r := ⟨tab[k], by simp [tab, hlt]⟩
      obtain ⟨c0, c1, c2⟩ := HT.out k r hr
      have hp := tab_p k r hr
      have HR := Lib.hid hr
      clear hr
      obtain ⟨nm, kd, p⟩ := r
      dsimp only at c0 c1 c2 hp
      cases he : (nm == name.toList)
      · have HS := Lib.hid (find_take_none _ _ _ _ HR.out HN.out (by simp [rowIs, he]))
        go_wp2
        go_quiet (fail)
        go_wp2
        go_roundw
        case rel => exact ⟨k + 1, _, by omega, by go_num, rfl, HS.out⟩
        case measure => simp [intOf]; omega
      · by_cases h3 : kd.length = 2
        · have HS := Lib.hid (find_take_some _ _ _ _ HR.out HN.out (by simp [rowIs, he, h3]))
          obtain ⟨a, b, rfl⟩ := two kd h3
          clear h3
          obtain ⟨kb, hkb⟩ : ∃ kb : ByteArray, kb = ⟨[a, b].toArray⟩ := ⟨_, rfl⟩
          rw [← hkb] at c1
          have h31 : ((kb.size : Int) == 2) = true := by rw [hkb]; rfl
          have h2 : 1 < kb.size := by rw [hkb]; show _ < 2; decide
          have h22 : (1 : Int) < (kb.size : Int) := by omega
          have HC : Hid (kb[1]'h2 = b) := by show _ = _; subst hkb; rfl
          clear hkb
          go_wp2
          go_quiet (fail)
          go_wp2_with (first | (go_at_call 10; refine (side_any _ _ _ hp).mono ?_; rintro e w' ⟨rfl, rfl⟩))
          refine bodyPost_ret (v := tup3o (prefixOf name)) ?_ rfl ⟨_, rfl, rfl⟩
          have h5 := HS.out
          have h7 := HC.out
          simp [results, Tryd.results8, go_sem, tup3o, prefixOf, findRow, h5, h7]
        · have HS := Lib.hid (find_take_none _ _ _ _ HR.out HN.out (by simp [rowIs, h3]))
          have h31 : ((kd.length : Int) == 2) = false := by simp; omega
          go_wp2
          go_quiet (fail)
          go_wp2
          go_roundw
          case rel => exact ⟨k + 1, _, by omega, by go_num, rfl, HS.out⟩
          case measure => simp [intOf]; omega
    · have HS : Hid (tab.find? (rowIs 2 name.toList) = none) := by have := HN.out; rwa [List.take_of_length_le (by simp [tab]; omega)] at this
      go_wp2
      refine bodyPost_ret (v := tup3o (prefixOf name)) ?_ rfl ⟨_, rfl, rfl⟩
      have h5 := HS.out
      simp [results, Tryd.results8, go_sem, tup3o, prefixOf, findRow, h5]
end Go.Proofs.YthdjpealdpkggaaDoor
