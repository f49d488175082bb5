/-
  coneyref02.Order, walked: insertion, one behind the other.
-/
import Derived.Test.YtmeilhjloeghhaaBest
namespace Go.Proofs.Ytmeilhjloeghhaa
open Go.RowKit

/-- a place set in its order -/
def insertO (ks : Nat → Option Int) (out : List Nat) (i : Nat) : List Nat :=
  out.take (out.findIdx (fun j => lessK (ks i) (ks j))) ++ [i] ++ out.drop (out.findIdx (fun j => lessK (ks i) (ks j)))
def orderO (ks : Nat → Option Int) : Nat → List Nat
  | 0 => []
  | n + 1 => insertO ks (orderO ks n) n
theorem orderO_length (ks : Nat → Option Int) : ∀ n, (orderO ks n).length = n
  | 0 => rfl
  | n + 1 => by
    have := orderO_length ks n
    have h := List.findIdx_le_length (xs := orderO ks n) (p := fun j => lessK (ks n) (ks j))
    simp [orderO, insertO, this]; omega
theorem orderO_lt (ks : Nat → Option Int) : ∀ n, ∀ x ∈ orderO ks n, x < n
  | 0, x, h => by simp [orderO] at h
  | n + 1, x, h => by
    simp only [orderO, insertO, List.mem_append, List.mem_singleton] at h
    rcases h with (h | h) | h
    · have := orderO_lt ks n x (List.mem_of_mem_take h); omega
    · omega
    · have := orderO_lt ks n x (List.mem_of_mem_drop h); omega

theorem findIdx_is {α : Type} (p : α → Bool) (l : List α) (k : Nat) (hk : k < l.length) (h : (l.take k).any p = false) (hp : p l[k] = true) : l.findIdx p = k := by
  rw [List.findIdx_eq hk]
  refine ⟨hp, fun j hj => ?_⟩
  rw [List.any_eq_false] at h
  have := h l[j] (by rw [List.mem_take_iff_getElem]; exact ⟨j, by omega, rfl⟩)
  simpa using this
theorem findIdx_all {α : Type} (p : α → Bool) (l : List α) (h : l.any p = false) : l.findIdx p = l.length := by
  rw [List.findIdx_eq_length]
  intro x hx
  rw [List.any_eq_false] at h
  simpa using h x hx
def natI (l : List Nat) : List Value := l.map fun (k : Nat) => Value.int .i64 (k : Int)
theorem Try.infoInt : (Try.prog.info? 3).map (fun i => (i.zero, i.size, i.bytes)) = some (some (.int .i64 0), 1, 8) := by kernel_rfl
theorem natI_one (l : List Nat) : ∀ u ∈ natI l, u.oneCell' = true := by
  intro u hu; obtain ⟨k, _, rfl⟩ := List.mem_map.1 hu; rfl

theorem row_end {ks : Nat → Option Int} {out : List Nat} {i k : Nat} {w : World} {base : Nat} {v : Value} (hK : insertO ks out i = out.take k ++ [i] ++ out.drop k) (hl : out.length = i) (hk : k ≤ i)
    (h : w.ownsRow base 3 1 v (k + 1 + (i - k)) (List.take k (natI out) ++ Value.int .i64 (i : Int) :: List.drop k (natI out))) : SlAt w 1 v (i + 1) (natI (insertO ks out i)) := by
  have h1 := SlAt.of_own h
  rw [show k + 1 + (i - k) = i + 1 by omega] at h1
  have h2 : natI (insertO ks out i) = List.take k (natI out) ++ Value.int .i64 (i : Int) :: List.drop k (natI out) := by
    rw [hK]; simp [natI, List.map_take, List.map_drop]
  rw [h2]; exact h1

set_option maxHeartbeats 1600000 in
theorem refOrder_any (v : Value) (bs : List Nat) (w : World) (h : FlAt w v bs) (hl : bs.length ≤ 4096) :
    Calls Try.prog 17 #[v] w fun e w' => ∃ v', e = .returned v' ∧ SlAt w' 1 v' bs.length (natI (orderO (keyAt bs) bs.length)) ∧ Below w.heap.size w w' := by
  obtain ⟨i0, hi, hz0, hz1, hz2⟩ := info_parts Try.infoInt
  obtain ⟨ao, cap, rfl, _⟩ := h.1.shape
  have H := Lib.hid h
  clear h
  go_enter Try.func17, Try.ntmps17
  go_wp2
  go_loopw [3, 4] (fun o s wr => ∃ i : Nat, i ≤ bs.length ∧ s = .int .i64 i ∧ SlAt wr 1 o i (natI (orderO (keyAt bs) i)) ∧ Below w.heap.size w wr) (fun _ s _ => bs.length - (intOf s).toNat)
  case atStart => exact ⟨0, by omega, rfl, SlAt.of_own (base := w.heap.size) (e := 3) (World.ownsRow_made w #[] 0 (Nat.le_refl _) (by decide) rfl), (Below.refl _ _).alloc (Nat.le_refl _) _⟩
  case round =>
    obtain ⟨i, hi1, rfl, hown, hbel⟩ := hrel
    obtain ⟨wo, rfl⟩ : ∃ wo : World, wo = wr := ⟨_, rfl⟩
    obtain ⟨oa, oc, rfl, hoc, _⟩ := hown.shape
    have HO := Lib.hid hown
    clear hown
    by_cases hlt : i < bs.length
    · obtain ⟨b, off, cap', he, hcap, _, hc⟩ := FlAt.at (H.out.below hbel) (by omega)
      simp only [Value.slice.injEq, true_and] at he
      obtain ⟨rfl, rfl⟩ := he
      have hbk : bs[i] < 2 ^ 64 := H.out.2 _ (List.getElem_mem hlt)
      obtain ⟨x, hx⟩ : ∃ x, x = bs[i] := ⟨_, rfl⟩
      have hcell := hc i hlt
      rw [← hx] at hcell hbk
      have HX : Hid (keyAt bs i = wk x) := by show _ = _; rw [keyAt, hx]; simp [hlt]
      have HBK := Lib.hid hbk
      have HC := Lib.hid hc
      clear hc hx hbk
      have hln : (orderO (keyAt bs) i).length = i := orderO_length _ _
      have HLN := Lib.hid hln
      clear hln
      go_wp2
      go_loopw [5] (fun s wr => ∃ k q : Nat, k ≤ i ∧ s = .int .i64 k ∧ wr = wo.drewN q ∧ ((orderO (keyAt bs) i).take k).any (fun j => lessK (keyAt bs i) (keyAt bs j)) = false) (fun s _ => i - (intOf s).toNat)
      case atStart => exact ⟨0, 0, by omega, rfl, rfl, by simp⟩
      case round =>
        obtain ⟨k, q, hk, rfl, rfl, hnot⟩ := hrel
        have HN := Lib.hid hnot
        clear hnot
        by_cases hki : k < i
        · obtain ⟨ob, oo, oc', he, _, _, _, hco⟩ := SlAt.pos HO.out (by omega)
          simp only [Value.slice.injEq, true_and] at he
          obtain ⟨rfl, rfl⟩ := he
          obtain ⟨m, hm⟩ : ∃ m, m = (orderO (keyAt bs) i)[k]'(by rw [HLN.out]; exact hki) := ⟨_, rfl⟩
          have hmi : m < i := by rw [hm]; exact orderO_lt _ _ _ (List.getElem_mem _)
          have hmb : m < bs.length := by omega
          have hoc1 := hco k (by omega)
          rw [show (natI (orderO (keyAt bs) i))[k]? = some (.int .i64 (m : Int)) by rw [hm]; simp [natI, HLN.out, hki]] at hoc1
          have hcm := HC.out m (by omega)
          have hbm : bs[m] < 2 ^ 64 := H.out.2 _ (List.getElem_mem (by omega))
          obtain ⟨y, hy⟩ : ∃ y, y = bs[m] := ⟨_, rfl⟩
          rw [← hy] at hcm hbm
          have HY : Hid (keyAt bs m = wk y) := by show _ = _; rw [keyAt, hy]; simp [hmb]
          have CL0 : Hid (∀ w, Calls Try.prog 11 #[.float .f64 x, .float .f64 y] w fun e w' => e = .returned (.bool (lessK (wk x) (wk y))) ∧ w = w') := fun w => refLess_any x y w
          have HM := Lib.hid hm
          clear hy hbm hco hm
          cases hll : lessK (wk x) (wk y) with
          | true =>
            have CL : Hid (∀ w, Calls Try.prog 11 #[.float .f64 x, .float .f64 y] w fun e w' => e = .returned (.bool true) ∧ w = w') := fun w => by rw [← hll]; exact CL0.out w
            have HF : Hid ((orderO (keyAt bs) i).findIdx (fun j => lessK (keyAt bs i) (keyAt bs j)) = k) := by
              show _ = _
              refine findIdx_is _ _ _ (by rw [HLN.out]; exact hki) HN.out ?_
              rw [← HM.out, HX.out, HY.out, hll]
            clear hll CL0
            go_wp2
            go_quiet ((go_at_call 11; exact quiet_same ⟨_, rfl⟩ (CL.out _)))
            have hW : Below wo.heap.size wo ((wo.drewN q).drewN nq) := below_drewN (below_drewN (Below.refl _ _) _) _
            generalize ((wo.drewN q).drewN nq) = W1 at hW ⊢
            have HK : Hid (insertO (keyAt bs) (orderO (keyAt bs) i) i = (orderO (keyAt bs) i).take k ++ [i] ++ (orderO (keyAt bs) i).drop k) := by show _ = _; rw [insertO, HF.out]
            have HW := Lib.hid hW
            clear hW
            go_wp2_with (first
              | (at_builtin; refine wpList_append_sl rfl (.tmp 36) (.tmp 39) 31 rfl W1.heap.size 3 i0 (.int .i64 0) 1 8 Try.underlying31 hi hz0 hz1 hz2 rfl (by decide) _ 0 [] rfl (World.ownsRow_made W1 #[] 0 (Nat.le_refl _) (by decide) rfl) _ k _ rfl (SlAt.take ((HO.out.below HW.out).alloc _) k oc (by omega) (by omega) (Nat.le_refl _)) (fun u hu => natI_one _ u (List.mem_of_mem_take hu)) (by omega) (by simp) ?_; intro v1 w1 o1 b1 g1; clear g1; simp only [Nat.zero_add, List.nil_append] at o1; have bw1 := Lib.hid (((Below.refl W1.heap.size W1).alloc (Nat.le_refl _) _).trans b1); clear b1)
              | (at_builtin; refine wpList_append1 rfl (.tmp 41) (.tmp 43) 31 rfl W1.heap.size 3 i0 (.int .i64 0) 8 Try.underlying31 hi hz0 hz1 hz2 rfl v1 k _ rfl o1 (.int .i64 i) rfl rfl (by omega) bw1.out.size ?_; intro v2 w2 o2 b2 g2 hne2; clear g2 hne2; have bw2 := Lib.hid (bw1.out.trans b2); clear b2 o1)
              | (at_builtin; refine wpList_append_sl rfl (.tmp 45) (.tmp 48) 31 rfl W1.heap.size 3 i0 (.int .i64 0) 1 8 Try.underlying31 hi hz0 hz1 hz2 rfl (by decide) v2 (k + 1) _ rfl o2 _ _ _ rfl (SlAt.drop (by decide) (HO.out.below (HW.out.trans (bw2.out.mono HW.out.size))) k (by omega) (by omega) (by omega) ?_ ?_) (fun u hu => natI_one _ u (List.mem_of_mem_drop hu)) (by omega) bw2.out.size ?_))
            try case refine_1 => (intro hkc b1 off1 he1; first | omega | (cases he1; simp [Go.WideShapes.add_plain]))
            try case refine_2 => (intro hkc h1; first | omega | (simp at h1))
            case refine_3 =>
              intro v3 w3 o3 b3 g3
              have bw3 := Lib.hid (hbel.trans ((HW.out.trans ((bw2.out.trans b3).mono HW.out.size)).mono hbel.size))
              have s3 := Lib.hid (row_end HK.out HLN.out hk o3)
              clear o3 b3 g3 o2 bw2 bw1
              go_wp2
              go_roundw
              case rel => exact ⟨i + 1, by omega, by go_num, s3.out, bw3.out⟩
              case measure => simp [intOf]; omega
          | false =>
            have CL : Hid (∀ w, Calls Try.prog 11 #[.float .f64 x, .float .f64 y] w fun e w' => e = .returned (.bool false) ∧ w = w') := fun w => by rw [← hll]; exact CL0.out w
            have HN2 : Hid (((orderO (keyAt bs) i).take (k + 1)).any (fun j => lessK (keyAt bs i) (keyAt bs j)) = false) := by
              show _ = _
              rw [List.take_succ_eq_append_getElem (by rw [HLN.out]; exact hki), List.any_append, HN.out]
              simp [← HM.out, HX.out, HY.out, hll]
            clear hll CL0
            go_wp2
            go_quiet ((go_at_call 11; exact quiet_same ⟨_, rfl⟩ (CL.out _)))
            go_wp2
            go_roundw
            case rel => exact ⟨k + 1, _, by omega, by go_num, rfl, HN2.out⟩
            case measure => simp [intOf]; omega
        · obtain rfl : k = i := by omega
          have hg : decide ((k : Int) < (k : Int)) = false := by simp
          have HF : Hid ((orderO (keyAt bs) k).findIdx (fun j => lessK (keyAt bs k) (keyAt bs j)) = k) := by
            show _ = _
            rw [findIdx_all, HLN.out]
            have := HN.out
            rwa [List.take_of_length_le (by rw [HLN.out]; omega)] at this
          obtain ⟨oa', hoa, hoa2⟩ : ∃ oa', oa = oa' ∧ (oa' = none → oc = 0) := ⟨oa, rfl, SlAt.none_cap HO.out⟩
          subst hoa
          cases oa with
          | none =>
            obtain rfl := hoa2 rfl
            obtain rfl : k = 0 := by omega
            clear hoa2
            go_wp2
            go_quiet (fail)
            have hW : Below wo.heap.size wo ((wo.drewN q).drewN nq) := below_drewN (below_drewN (Below.refl _ _) _) _
            generalize ((wo.drewN q).drewN nq) = W1 at hW ⊢
            have HK : Hid (insertO (keyAt bs) (orderO (keyAt bs) 0) 0 = (orderO (keyAt bs) 0).take 0 ++ [0] ++ (orderO (keyAt bs) 0).drop 0) := by show _ = _; rw [insertO, HF.out]
            have HW := Lib.hid hW
            clear hW
            go_wp2_with (first
              | (at_builtin; refine wpList_append_sl rfl (.tmp 36) (.tmp 39) 31 rfl W1.heap.size 3 i0 (.int .i64 0) 1 8 Try.underlying31 hi hz0 hz1 hz2 rfl (by decide) _ 0 [] rfl (World.ownsRow_made W1 #[] 0 (Nat.le_refl _) (by decide) rfl) _ 0 _ rfl (SlAt.take ((HO.out.below HW.out).alloc _) 0 0 (by omega) (by omega) (Nat.le_refl _)) (fun u hu => natI_one _ u (List.mem_of_mem_take hu)) (by omega) (by simp) ?_; intro v1 w1 o1 b1 g1; clear g1; simp only [Nat.zero_add, List.nil_append] at o1; have bw1 := Lib.hid (((Below.refl W1.heap.size W1).alloc (Nat.le_refl _) _).trans b1); clear b1)
              | (at_builtin; refine wpList_append1 rfl (.tmp 41) (.tmp 43) 31 rfl W1.heap.size 3 i0 (.int .i64 0) 8 Try.underlying31 hi hz0 hz1 hz2 rfl v1 0 _ rfl o1 (.int .i64 ((0 : Nat) : Int)) rfl rfl (by omega) bw1.out.size ?_; intro v2 w2 o2 b2 g2 hne2; clear g2 hne2; have bw2 := Lib.hid (bw1.out.trans b2); clear b2 o1)
              | (at_builtin; refine wpList_append_sl rfl (.tmp 45) (.tmp 48) 31 rfl W1.heap.size 3 i0 (.int .i64 0) 1 8 Try.underlying31 hi hz0 hz1 hz2 rfl (by decide) v2 (0 + 1) _ rfl o2 _ _ _ rfl (SlAt.drop (by decide) (HO.out.below (HW.out.trans (bw2.out.mono HW.out.size))) 0 (by omega) (by omega) (by omega) ?_ ?_) (fun u hu => natI_one _ u (List.mem_of_mem_drop hu)) (by omega) bw2.out.size ?_))
            try case refine_1 => (intro hkc b1 off1 he1; first | omega | (cases he1; simp [Go.WideShapes.add_plain]))
            try case refine_2 => (intro hkc h1; first | omega | (simp at h1))
            case refine_3 =>
              intro v3 w3 o3 b3 g3
              have bw3 := Lib.hid (hbel.trans ((HW.out.trans ((bw2.out.trans b3).mono HW.out.size)).mono hbel.size))
              have s3 := Lib.hid (row_end HK.out HLN.out (Nat.le_refl _) (by simpa using o3))
              clear o3 b3 g3 o2 bw2 bw1
              go_wp2
              go_roundw
              case rel => exact ⟨0 + 1, by omega, by go_num, s3.out, bw3.out⟩
              case measure => simp [intOf]; omega
          | some oad =>
            obtain ⟨ob, oo, ospot⟩ := oad
            clear hoa2
            by_cases hck : k < oc
            · go_wp2
              go_quiet (fail)
              have hW : Below wo.heap.size wo ((wo.drewN q).drewN nq) := below_drewN (below_drewN (Below.refl _ _) _) _
              generalize ((wo.drewN q).drewN nq) = W1 at hW ⊢
              have HK : Hid (insertO (keyAt bs) (orderO (keyAt bs) k) k = (orderO (keyAt bs) k).take k ++ [k] ++ (orderO (keyAt bs) k).drop k) := by show _ = _; rw [insertO, HF.out]
              have HW := Lib.hid hW
              clear hW
              go_wp2_with (first
                | (at_builtin; refine wpList_append_sl rfl (.tmp 36) (.tmp 39) 31 rfl W1.heap.size 3 i0 (.int .i64 0) 1 8 Try.underlying31 hi hz0 hz1 hz2 rfl (by decide) _ 0 [] rfl (World.ownsRow_made W1 #[] 0 (Nat.le_refl _) (by decide) rfl) _ k _ rfl (SlAt.take ((HO.out.below HW.out).alloc _) k oc (by omega) (by omega) (Nat.le_refl _)) (fun u hu => natI_one _ u (List.mem_of_mem_take hu)) (by omega) (by simp) ?_; intro v1 w1 o1 b1 g1; clear g1; simp only [Nat.zero_add, List.nil_append] at o1; have bw1 := Lib.hid (((Below.refl W1.heap.size W1).alloc (Nat.le_refl _) _).trans b1); clear b1)
                | (at_builtin; refine wpList_append1 rfl (.tmp 41) (.tmp 43) 31 rfl W1.heap.size 3 i0 (.int .i64 0) 8 Try.underlying31 hi hz0 hz1 hz2 rfl v1 k _ rfl o1 (.int .i64 k) rfl rfl (by omega) bw1.out.size ?_; intro v2 w2 o2 b2 g2 hne2; clear g2 hne2; have bw2 := Lib.hid (bw1.out.trans b2); clear b2 o1)
                | (at_builtin; refine wpList_append_sl rfl (.tmp 45) (.tmp 48) 31 rfl W1.heap.size 3 i0 (.int .i64 0) 1 8 Try.underlying31 hi hz0 hz1 hz2 rfl (by decide) v2 (k + 1) _ rfl o2 _ _ _ rfl (SlAt.drop (by decide) (HO.out.below (HW.out.trans (bw2.out.mono HW.out.size))) k (by omega) (by omega) (by omega) ?_ ?_) (fun u hu => natI_one _ u (List.mem_of_mem_drop hu)) (by omega) bw2.out.size ?_))
              try case refine_1 => (intro hkc b1 off1 he1; first | omega | (cases he1; simp [Go.WideShapes.add_plain]))
              try case refine_2 => (intro hkc h1; first | omega | (simp at h1))
              case refine_3 =>
                intro v3 w3 o3 b3 g3
                have bw3 := Lib.hid (hbel.trans ((HW.out.trans ((bw2.out.trans b3).mono HW.out.size)).mono hbel.size))
                have s3 := Lib.hid (row_end HK.out HLN.out (Nat.le_refl _) (by simpa using o3))
                clear o3 b3 g3 o2 bw2 bw1
                go_wp2
                go_roundw
                case rel => exact ⟨k + 1, by omega, by go_num, s3.out, bw3.out⟩
                case measure => simp [intOf]; omega
            · obtain rfl : oc = k := by omega
              go_wp2
              go_quiet (fail)
              have hW : Below wo.heap.size wo ((wo.drewN q).drewN nq) := below_drewN (below_drewN (Below.refl _ _) _) _
              generalize ((wo.drewN q).drewN nq) = W1 at hW ⊢
              have HK : Hid (insertO (keyAt bs) (orderO (keyAt bs) oc) oc = (orderO (keyAt bs) oc).take oc ++ [oc] ++ (orderO (keyAt bs) oc).drop oc) := by show _ = _; rw [insertO, HF.out]
              have HW := Lib.hid hW
              clear hW
              go_wp2_with (first
                | (at_builtin; refine wpList_append_sl rfl (.tmp 36) (.tmp 39) 31 rfl W1.heap.size 3 i0 (.int .i64 0) 1 8 Try.underlying31 hi hz0 hz1 hz2 rfl (by decide) _ 0 [] rfl (World.ownsRow_made W1 #[] 0 (Nat.le_refl _) (by decide) rfl) _ oc _ rfl (SlAt.take ((HO.out.below HW.out).alloc _) oc oc (by omega) (by omega) (Nat.le_refl _)) (fun u hu => natI_one _ u (List.mem_of_mem_take hu)) (by omega) (by simp) ?_; intro v1 w1 o1 b1 g1; clear g1; simp only [Nat.zero_add, List.nil_append] at o1; have bw1 := Lib.hid (((Below.refl W1.heap.size W1).alloc (Nat.le_refl _) _).trans b1); clear b1)
                | (at_builtin; refine wpList_append1 rfl (.tmp 41) (.tmp 43) 31 rfl W1.heap.size 3 i0 (.int .i64 0) 8 Try.underlying31 hi hz0 hz1 hz2 rfl v1 oc _ rfl o1 (.int .i64 oc) rfl rfl (by omega) bw1.out.size ?_; intro v2 w2 o2 b2 g2 hne2; clear g2 hne2; have bw2 := Lib.hid (bw1.out.trans b2); clear b2 o1)
                | (at_builtin; refine wpList_append_sl rfl (.tmp 45) (.tmp 48) 31 rfl W1.heap.size 3 i0 (.int .i64 0) 1 8 Try.underlying31 hi hz0 hz1 hz2 rfl (by decide) v2 (oc + 1) _ rfl o2 _ _ _ rfl (SlAt.drop (by decide) (HO.out.below (HW.out.trans (bw2.out.mono HW.out.size))) oc (by omega) (by omega) (by omega) ?_ ?_) (fun u hu => natI_one _ u (List.mem_of_mem_drop hu)) (by omega) bw2.out.size ?_))
              try case refine_1 => (intro hkc b1 off1 he1; first | omega | (cases he1; simp [Go.WideShapes.add_plain]))
              try case refine_2 => (intro hkc h1; first | omega | (simp at h1))
              case refine_3 =>
                intro v3 w3 o3 b3 g3
                have bw3 := Lib.hid (hbel.trans ((HW.out.trans ((bw2.out.trans b3).mono HW.out.size)).mono hbel.size))
                have s3 := Lib.hid (row_end HK.out HLN.out (Nat.le_refl _) (by simpa using o3))
                clear o3 b3 g3 o2 bw2 bw1
                go_wp2
                go_roundw
                case rel => exact ⟨oc + 1, by omega, by go_num, s3.out, bw3.out⟩
                case measure => simp [intOf]; omega
    · obtain rfl : i = bs.length := by omega
      go_wp2
      go_ret
      exact ⟨_, rfl, HO.out, hbel⟩
end Go.Proofs.Ytmeilhjloeghhaa
