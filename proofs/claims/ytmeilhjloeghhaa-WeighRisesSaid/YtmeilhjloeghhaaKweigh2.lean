/-
  coneyref02.Order, walked: insertion, one behind the other.
  coneyref02.Best, walked; and the plain law: it is weigh.Best's.
  The plain law of the best: the first of the order that is not skipped is the best of those that are not skipped. No program.
-/
import Derived.Test.YtmeilhjloeghhaaKweigh1
namespace Go.Proofs.Ytmeilhjloeghhaa
open Go.RowKit

/-- a place set in its order -/
def insertO (ks : Nat → Option Int) (out : List Nat) (i : Nat) : List Nat :=
  out.take (out.findIdx (fun j => lessK (ks i) (ks j))) ++ [i] ++ out.drop (out.findIdx (fun j => lessK (ks i) (ks j)))
def orderO (ks : Nat → Option Int) : Nat → List Nat
  | 0 => []
  | n + 1 => insertO ks (orderO ks n) n
theorem orderO_length (ks : Nat → Option Int) : ∀ n, (orderO ks n).length = n
  | 0 => rfl
  | n + 1 => by
    have := orderO_length ks n
    have h := List.findIdx_le_length (xs := orderO ks n) (p := fun j => lessK (ks n) (ks j))
    simp [orderO, insertO, this]; omega
theorem orderO_lt (ks : Nat → Option Int) : ∀ n, ∀ x ∈ orderO ks n, x < n
  | 0, x, h => by simp [orderO] at h
  | n + 1, x, h => by
    simp only [orderO, insertO, List.mem_append, List.mem_singleton] at h
    rcases h with (h | h) | h
    · have := orderO_lt ks n x (List.mem_of_mem_take h); omega
    · omega
    · have := orderO_lt ks n x (List.mem_of_mem_drop h); omega

theorem findIdx_is {α : Type} (p : α → Bool) (l : List α) (k : Nat) (hk : k < l.length) (h : (l.take k).any p = false) (hp : p l[k] = true) : l.findIdx p = k := by
  rw [List.findIdx_eq hk]
  refine ⟨hp, fun j hj => ?_⟩
  rw [List.any_eq_false] at h
  have := h l[j] (by rw [List.mem_take_iff_getElem]; exact ⟨j, by omega, rfl⟩)
  simpa using this
theorem findIdx_all {α : Type} (p : α → Bool) (l : List α) (h : l.any p = false) : l.findIdx p = l.length := by
  rw [List.findIdx_eq_length]
  intro x hx
  rw [List.any_eq_false] at h
  simpa using h x hx
def natI (l : List Nat) : List Value := l.map fun (k : Nat) => Value.int .i64 (k : Int)
theorem Try.infoInt : (Try.prog.info? 3).map (fun i => (i.zero, i.size, i.bytes)) = some (some (.int .i64 0), 1, 8) := by kernel_rfl
theorem natI_one (l : List Nat) : ∀ u ∈ natI l, u.oneCell' = true := by
  intro u hu; obtain ⟨k, _, rfl⟩ := List.mem_map.1 hu; rfl

theorem row_end {ks : Nat → Option Int} {out : List Nat} {i k : Nat} {w : World} {base : Nat} {v : Value} (hK : insertO ks out i = out.take k ++ [i] ++ out.drop k) (_hl : out.length = i) (hk : k ≤ i)
    (h : w.ownsRow base 3 1 v (k + 1 + (i - k)) (List.take k (natI out) ++ Value.int .i64 (i : Int) :: List.drop k (natI out))) : SlAt w 1 v (i + 1) (natI (insertO ks out i)) := by
  have h1 := SlAt.of_own h
  rw [show k + 1 + (i - k) = i + 1 by omega] at h1
  have h2 : natI (insertO ks out i) = List.take k (natI out) ++ Value.int .i64 (i : Int) :: List.drop k (natI out) := by
    rw [hK]; simp [natI, List.map_take, List.map_drop]
  rw [h2]; exact h1

set_option maxHeartbeats 1600000 in
theorem refOrder_any (v : Value) (bs : List Nat) (w : World) (h : FlAt w v bs) (hl : bs.length ≤ 4096) :
    Calls Try.prog 17 #[v] w fun e w' => ∃ v', e = .returned v' ∧ SlAt w' 1 v' bs.length (natI (orderO (keyAt bs) bs.length)) ∧ Below w.heap.size w w' := by
  obtain ⟨i0, hi, hz0, hz1, hz2⟩ := info_parts Try.infoInt
  obtain ⟨ao, cap, rfl, _⟩ := h.1.shape
  have H := Lib.hid h
  clear h
  go_enter Try.func17, Try.ntmps17
  go_wp2
  go_loopw [3, 4] (fun o s wr => ∃ i : Nat, i ≤ bs.length ∧ s = .int .i64 i ∧ SlAt wr 1 o i (natI (orderO (keyAt bs) i)) ∧ Below w.heap.size w wr) (fun _ s _ => bs.length - (intOf s).toNat)
  case atStart => exact ⟨0, by omega, rfl, SlAt.of_own (base := w.heap.size) (e := 3) (World.ownsRow_made w #[] 0 (Nat.le_refl _) (by decide) rfl), (Below.refl _ _).alloc (Nat.le_refl _) _⟩
  case round =>
    obtain ⟨i, hi1, rfl, hown, hbel⟩ := hrel
    obtain ⟨wo, rfl⟩ : ∃ wo : World, wo = wr := ⟨_, rfl⟩
    obtain ⟨oa, oc, rfl, hoc, _⟩ := hown.shape
    have HO := Lib.hid hown
    clear hown
    by_cases hlt : i < bs.length
    · obtain ⟨b, off, cap', he, hcap, _, hc⟩ := FlAt.at (H.out.below hbel) (by omega)
      simp only [Value.slice.injEq, true_and] at he
      obtain ⟨rfl, rfl⟩ := he
      have hbk : bs[i] < 2 ^ 64 := H.out.2 _ (List.getElem_mem hlt)
      obtain ⟨x, hx⟩ : ∃ x, x = bs[i] := ⟨_, rfl⟩
      have hcell := hc i hlt
      rw [← hx] at hcell hbk
      have HX : Hid (keyAt bs i = wk x) := by show _ = _; rw [keyAt, hx]; simp [hlt]
      have HBK := Lib.hid hbk
      have HC := Lib.hid hc
      clear hc hx hbk
      have hln : (orderO (keyAt bs) i).length = i := orderO_length _ _
      have HLN := Lib.hid hln
      clear hln
      go_wp2
      go_loopw [5] (fun s wr => ∃ k q : Nat, k ≤ i ∧ s = .int .i64 k ∧ wr = wo.drewN q ∧ ((orderO (keyAt bs) i).take k).any (fun j => lessK (keyAt bs i) (keyAt bs j)) = false) (fun s _ => i - (intOf s).toNat)
      case atStart => exact ⟨0, 0, by omega, rfl, rfl, by simp⟩
      case round =>
        obtain ⟨k, q, hk, rfl, rfl, hnot⟩ := hrel
        have HN := Lib.hid hnot
        clear hnot
        by_cases hki : k < i
        · obtain ⟨ob, oo, oc', he, _, _, _, hco⟩ := SlAt.pos HO.out (by omega)
          simp only [Value.slice.injEq, true_and] at he
          obtain ⟨rfl, rfl⟩ := he
          obtain ⟨m, hm⟩ : ∃ m, m = (orderO (keyAt bs) i)[k]'(by rw [HLN.out]; exact hki) := ⟨_, rfl⟩
          have hmi : m < i := by rw [hm]; exact orderO_lt _ _ _ (List.getElem_mem _)
          have hmb : m < bs.length := by omega
          have hoc1 := hco k (by omega)
          rw [show (natI (orderO (keyAt bs) i))[k]? = some (.int .i64 (m : Int)) by rw [hm]; simp [natI, HLN.out, hki]] at hoc1
          have hcm := HC.out m (by omega)
          have hbm : bs[m] < 2 ^ 64 := H.out.2 _ (List.getElem_mem (by omega))
          obtain ⟨y, hy⟩ : ∃ y, y = bs[m] := ⟨_, rfl⟩
          rw [← hy] at hcm hbm
          have HY : Hid (keyAt bs m = wk y) := by show _ = _; rw [keyAt, hy]; simp [hmb]
          have CL0 : Hid (∀ w, Calls Try.prog 11 #[.float .f64 x, .float .f64 y] w fun e w' => e = .returned (.bool (lessK (wk x) (wk y))) ∧ w = w') := fun w => refLess_any x y w
          have HM := Lib.hid hm
          clear hy hbm hco hm
          cases hll : lessK (wk x) (wk y) with
          | true =>
            have CL : Hid (∀ w, Calls Try.prog 11 #[.float .f64 x, .float .f64 y] w fun e w' => e = .returned (.bool true) ∧ w = w') := fun w => by rw [← hll]; exact CL0.out w
            have HF : Hid ((orderO (keyAt bs) i).findIdx (fun j => lessK (keyAt bs i) (keyAt bs j)) = k) := by
              show _ = _
              refine findIdx_is _ _ _ (by rw [HLN.out]; exact hki) HN.out ?_
              rw [← HM.out, HX.out, HY.out, hll]
            clear hll CL0
            go_wp2
            go_quiet ((go_at_call 11; exact quiet_same ⟨_, rfl⟩ (CL.out _)))
            have hW : Below wo.heap.size wo ((wo.drewN q).drewN nq) := below_drewN (below_drewN (Below.refl _ _) _) _
            generalize ((wo.drewN q).drewN nq) = W1 at hW ⊢
            have HK : Hid (insertO (keyAt bs) (orderO (keyAt bs) i) i = (orderO (keyAt bs) i).take k ++ [i] ++ (orderO (keyAt bs) i).drop k) := by show _ = _; rw [insertO, HF.out]
            have HW := Lib.hid hW
            clear hW
            go_wp2_with (first
              | (at_builtin; refine wpList_append_sl rfl (.tmp 36) (.tmp 39) 31 rfl W1.heap.size 3 i0 (.int .i64 0) 1 8 Try.underlying31 hi hz0 hz1 hz2 rfl (by decide) _ 0 [] rfl (World.ownsRow_made W1 #[] 0 (Nat.le_refl _) (by decide) rfl) _ k _ rfl (SlAt.take ((HO.out.below HW.out).alloc _) k oc (by omega) (by omega) (Nat.le_refl _)) (fun u hu => natI_one _ u (List.mem_of_mem_take hu)) (by omega) (by simp) ?_; intro v1 w1 o1 b1 g1; clear g1; simp only [Nat.zero_add, List.nil_append] at o1; have bw1 := Lib.hid (((Below.refl W1.heap.size W1).alloc (Nat.le_refl _) _).trans b1); clear b1)
              | (at_builtin; refine wpList_append1 rfl (.tmp 41) (.tmp 43) 31 rfl W1.heap.size 3 i0 (.int .i64 0) 8 Try.underlying31 hi hz0 hz1 hz2 rfl v1 k _ rfl o1 (.int .i64 i) rfl rfl (by omega) bw1.out.size ?_; intro v2 w2 o2 b2 g2 hne2; clear g2 hne2; have bw2 := Lib.hid (bw1.out.trans b2); clear b2 o1)
              | (at_builtin; refine wpList_append_sl rfl (.tmp 45) (.tmp 48) 31 rfl W1.heap.size 3 i0 (.int .i64 0) 1 8 Try.underlying31 hi hz0 hz1 hz2 rfl (by decide) v2 (k + 1) _ rfl o2 _ _ _ rfl (SlAt.drop (by decide) (HO.out.below (HW.out.trans (bw2.out.mono HW.out.size))) k (by omega) (by omega) (by omega) ?_ ?_) (fun u hu => natI_one _ u (List.mem_of_mem_drop hu)) (by omega) bw2.out.size ?_))
            try case refine_1 => (intro hkc b1 off1 he1; first | omega | (cases he1; simp))
            try case refine_2 => (intro hkc h1; first | omega | (simp at h1))
            case refine_3 =>
              intro v3 w3 o3 b3 g3
              have bw3 := Lib.hid (hbel.trans ((HW.out.trans ((bw2.out.trans b3).mono HW.out.size)).mono hbel.size))
              have s3 := Lib.hid (row_end HK.out HLN.out hk o3)
              clear o3 b3 g3 o2 bw2 bw1
              go_wp2
              go_roundw
              case rel => exact ⟨i + 1, by omega, by go_num, s3.out, bw3.out⟩
              case measure => simp [intOf]; omega
          | false =>
            have CL : Hid (∀ w, Calls Try.prog 11 #[.float .f64 x, .float .f64 y] w fun e w' => e = .returned (.bool false) ∧ w = w') := fun w => by rw [← hll]; exact CL0.out w
            have HN2 : Hid (((orderO (keyAt bs) i).take (k + 1)).any (fun j => lessK (keyAt bs i) (keyAt bs j)) = false) := by
              show _ = _
              rw [List.take_succ_eq_append_getElem (by rw [HLN.out]; exact hki), List.any_append, HN.out]
              simp [← HM.out, HX.out, HY.out, hll]
            clear hll CL0
            go_wp2
            go_quiet ((go_at_call 11; exact quiet_same ⟨_, rfl⟩ (CL.out _)))
            go_wp2
            go_roundw
            case rel => exact ⟨k + 1, _, by omega, by go_num, rfl, HN2.out⟩
            case measure => simp [intOf]; omega
        · obtain rfl : k = i := by omega
          have hg : decide ((k : Int) < (k : Int)) = false := by simp
          have HF : Hid ((orderO (keyAt bs) k).findIdx (fun j => lessK (keyAt bs k) (keyAt bs j)) = k) := by
            show _ = _
            rw [findIdx_all, HLN.out]
            have := HN.out
            rwa [List.take_of_length_le (by rw [HLN.out]; omega)] at this
          obtain ⟨oa', hoa, hoa2⟩ : ∃ oa', oa = oa' ∧ (oa' = none → oc = 0) := ⟨oa, rfl, SlAt.none_cap HO.out⟩
          subst hoa
          cases oa with
          | none =>
            obtain rfl := hoa2 rfl
            obtain rfl : k = 0 := by omega
            clear hoa2
            go_wp2
            go_quiet (fail)
            have hW : Below wo.heap.size wo ((wo.drewN q).drewN nq) := below_drewN (below_drewN (Below.refl _ _) _) _
            generalize ((wo.drewN q).drewN nq) = W1 at hW ⊢
            have HK : Hid (insertO (keyAt bs) (orderO (keyAt bs) 0) 0 = (orderO (keyAt bs) 0).take 0 ++ [0] ++ (orderO (keyAt bs) 0).drop 0) := by show _ = _; rw [insertO, HF.out]
            have HW := Lib.hid hW
            clear hW
            go_wp2_with (first
              | (at_builtin; refine wpList_append_sl rfl (.tmp 36) (.tmp 39) 31 rfl W1.heap.size 3 i0 (.int .i64 0) 1 8 Try.underlying31 hi hz0 hz1 hz2 rfl (by decide) _ 0 [] rfl (World.ownsRow_made W1 #[] 0 (Nat.le_refl _) (by decide) rfl) _ 0 _ rfl (SlAt.take ((HO.out.below HW.out).alloc _) 0 0 (by omega) (by omega) (Nat.le_refl _)) (fun u hu => natI_one _ u (List.mem_of_mem_take hu)) (by omega) (by simp) ?_; intro v1 w1 o1 b1 g1; clear g1; simp only [Nat.zero_add, List.nil_append] at o1; have bw1 := Lib.hid (((Below.refl W1.heap.size W1).alloc (Nat.le_refl _) _).trans b1); clear b1)
              | (at_builtin; refine wpList_append1 rfl (.tmp 41) (.tmp 43) 31 rfl W1.heap.size 3 i0 (.int .i64 0) 8 Try.underlying31 hi hz0 hz1 hz2 rfl v1 0 _ rfl o1 (.int .i64 ((0 : Nat) : Int)) rfl rfl (by omega) bw1.out.size ?_; intro v2 w2 o2 b2 g2 hne2; clear g2 hne2; have bw2 := Lib.hid (bw1.out.trans b2); clear b2 o1)
              | (at_builtin; refine wpList_append_sl rfl (.tmp 45) (.tmp 48) 31 rfl W1.heap.size 3 i0 (.int .i64 0) 1 8 Try.underlying31 hi hz0 hz1 hz2 rfl (by decide) v2 (0 + 1) _ rfl o2 _ _ _ rfl (SlAt.drop (by decide) (HO.out.below (HW.out.trans (bw2.out.mono HW.out.size))) 0 (by omega) (by omega) (by omega) ?_ ?_) (fun u hu => natI_one _ u (List.mem_of_mem_drop hu)) (by omega) bw2.out.size ?_))
            try case refine_1 => (intro hkc b1 off1 he1; first | omega | (cases he1; simp [Go.WideShapes.add_plain]))
            try case refine_2 => (intro hkc h1; first | omega | (simp at h1))
            case refine_3 =>
              intro v3 w3 o3 b3 g3
              have bw3 := Lib.hid (hbel.trans ((HW.out.trans ((bw2.out.trans b3).mono HW.out.size)).mono hbel.size))
              have s3 := Lib.hid (row_end HK.out HLN.out (Nat.le_refl _) (by simpa using o3))
              clear o3 b3 g3 o2 bw2 bw1
              go_wp2
              go_roundw
              case rel => exact ⟨0 + 1, by omega, by go_num, s3.out, bw3.out⟩
              case measure => simp [intOf]; omega
          | some oad =>
            obtain ⟨ob, oo, ospot⟩ := oad
            clear hoa2
            by_cases hck : k < oc
            · go_wp2
              go_quiet (fail)
              have hW : Below wo.heap.size wo ((wo.drewN q).drewN nq) := below_drewN (below_drewN (Below.refl _ _) _) _
              generalize ((wo.drewN q).drewN nq) = W1 at hW ⊢
              have HK : Hid (insertO (keyAt bs) (orderO (keyAt bs) k) k = (orderO (keyAt bs) k).take k ++ [k] ++ (orderO (keyAt bs) k).drop k) := by show _ = _; rw [insertO, HF.out]
              have HW := Lib.hid hW
              clear hW
              go_wp2_with (first
                | (at_builtin; refine wpList_append_sl rfl (.tmp 36) (.tmp 39) 31 rfl W1.heap.size 3 i0 (.int .i64 0) 1 8 Try.underlying31 hi hz0 hz1 hz2 rfl (by decide) _ 0 [] rfl (World.ownsRow_made W1 #[] 0 (Nat.le_refl _) (by decide) rfl) _ k _ rfl (SlAt.take ((HO.out.below HW.out).alloc _) k oc (by omega) (by omega) (Nat.le_refl _)) (fun u hu => natI_one _ u (List.mem_of_mem_take hu)) (by omega) (by simp) ?_; intro v1 w1 o1 b1 g1; clear g1; simp only [Nat.zero_add, List.nil_append] at o1; have bw1 := Lib.hid (((Below.refl W1.heap.size W1).alloc (Nat.le_refl _) _).trans b1); clear b1)
                | (at_builtin; refine wpList_append1 rfl (.tmp 41) (.tmp 43) 31 rfl W1.heap.size 3 i0 (.int .i64 0) 8 Try.underlying31 hi hz0 hz1 hz2 rfl v1 k _ rfl o1 (.int .i64 k) rfl rfl (by omega) bw1.out.size ?_; intro v2 w2 o2 b2 g2 hne2; clear g2 hne2; have bw2 := Lib.hid (bw1.out.trans b2); clear b2 o1)
                | (at_builtin; refine wpList_append_sl rfl (.tmp 45) (.tmp 48) 31 rfl W1.heap.size 3 i0 (.int .i64 0) 1 8 Try.underlying31 hi hz0 hz1 hz2 rfl (by decide) v2 (k + 1) _ rfl o2 _ _ _ rfl (SlAt.drop (by decide) (HO.out.below (HW.out.trans (bw2.out.mono HW.out.size))) k (by omega) (by omega) (by omega) ?_ ?_) (fun u hu => natI_one _ u (List.mem_of_mem_drop hu)) (by omega) bw2.out.size ?_))
              try case refine_1 => (intro hkc b1 off1 he1; first | omega | (cases he1; simp [Go.WideShapes.add_plain]))
              try case refine_2 => (intro hkc h1; first | omega | (simp at h1))
              case refine_3 =>
                intro v3 w3 o3 b3 g3
                have bw3 := Lib.hid (hbel.trans ((HW.out.trans ((bw2.out.trans b3).mono HW.out.size)).mono hbel.size))
                have s3 := Lib.hid (row_end HK.out HLN.out (Nat.le_refl _) (by simpa using o3))
                clear o3 b3 g3 o2 bw2 bw1
                go_wp2
                go_roundw
                case rel => exact ⟨k + 1, by omega, by go_num, s3.out, bw3.out⟩
                case measure => simp [intOf]; omega
            · obtain rfl : oc = k := by omega
              go_wp2
              go_quiet (fail)
              have hW : Below wo.heap.size wo ((wo.drewN q).drewN nq) := below_drewN (below_drewN (Below.refl _ _) _) _
              generalize ((wo.drewN q).drewN nq) = W1 at hW ⊢
              have HK : Hid (insertO (keyAt bs) (orderO (keyAt bs) oc) oc = (orderO (keyAt bs) oc).take oc ++ [oc] ++ (orderO (keyAt bs) oc).drop oc) := by show _ = _; rw [insertO, HF.out]
              have HW := Lib.hid hW
              clear hW
              go_wp2_with (first
                | (at_builtin; refine wpList_append_sl rfl (.tmp 36) (.tmp 39) 31 rfl W1.heap.size 3 i0 (.int .i64 0) 1 8 Try.underlying31 hi hz0 hz1 hz2 rfl (by decide) _ 0 [] rfl (World.ownsRow_made W1 #[] 0 (Nat.le_refl _) (by decide) rfl) _ oc _ rfl (SlAt.take ((HO.out.below HW.out).alloc _) oc oc (by omega) (by omega) (Nat.le_refl _)) (fun u hu => natI_one _ u (List.mem_of_mem_take hu)) (by omega) (by simp) ?_; intro v1 w1 o1 b1 g1; clear g1; simp only [Nat.zero_add, List.nil_append] at o1; have bw1 := Lib.hid (((Below.refl W1.heap.size W1).alloc (Nat.le_refl _) _).trans b1); clear b1)
                | (at_builtin; refine wpList_append1 rfl (.tmp 41) (.tmp 43) 31 rfl W1.heap.size 3 i0 (.int .i64 0) 8 Try.underlying31 hi hz0 hz1 hz2 rfl v1 oc _ rfl o1 (.int .i64 oc) rfl rfl (by omega) bw1.out.size ?_; intro v2 w2 o2 b2 g2 hne2; clear g2 hne2; have bw2 := Lib.hid (bw1.out.trans b2); clear b2 o1)
                | (at_builtin; refine wpList_append_sl rfl (.tmp 45) (.tmp 48) 31 rfl W1.heap.size 3 i0 (.int .i64 0) 1 8 Try.underlying31 hi hz0 hz1 hz2 rfl (by decide) v2 (oc + 1) _ rfl o2 _ _ _ rfl (SlAt.drop (by decide) (HO.out.below (HW.out.trans (bw2.out.mono HW.out.size))) oc (by omega) (by omega) (by omega) ?_ ?_) (fun u hu => natI_one _ u (List.mem_of_mem_drop hu)) (by omega) bw2.out.size ?_))
              try case refine_1 => (intro hkc b1 off1 he1; first | omega | (cases he1; simp [Go.WideShapes.add_plain]))
              try case refine_2 => (intro hkc h1; first | omega | (simp at h1))
              case refine_3 =>
                intro v3 w3 o3 b3 g3
                have bw3 := Lib.hid (hbel.trans ((HW.out.trans ((bw2.out.trans b3).mono HW.out.size)).mono hbel.size))
                have s3 := Lib.hid (row_end HK.out HLN.out (Nat.le_refl _) (by simpa using o3))
                clear o3 b3 g3 o2 bw2 bw1
                go_wp2
                go_roundw
                case rel => exact ⟨oc + 1, by omega, by go_num, s3.out, bw3.out⟩
                case measure => simp [intOf]; omega
    · obtain rfl : i = bs.length := by omega
      go_wp2
      go_ret
      exact ⟨_, rfl, HO.out, hbel⟩
end Go.Proofs.Ytmeilhjloeghhaa
namespace Go.Proofs.Ytmeilhjloeghhaa
open Go.RowKit

set_option maxHeartbeats 1600000 in
theorem refBest_any (v vs : Value) (bs : List Nat) (sk : List Bool) (w : World) (h : FlAt w v bs) (hs : BoAt w vs sk) (hl : bs.length ≤ 4096) (hl2 : sk.length ≤ 4096) :
    Calls Try.prog 13 #[v, vs] w fun e w' => e = .returned (.int .i64 (toI ((orderO (keyAt bs) bs.length).find? fun j => !skipAt sk j))) ∧ Below w.heap.size w w' := by
  obtain ⟨asl, caps, rfl, _⟩ := hs.shape
  have H := Lib.hid h
  have HS0 := Lib.hid hs
  clear h hs
  go_enter Try.func13, Try.ntmps13
  go_wp2_with (first | (go_at_call 17; ((with_reducible refine (refOrder_any _ _ _ H.out hl).mono ?_))))
  rintro e w1 ⟨vo, rfl, ho, hb⟩
  obtain ⟨ao, co, rfl, _⟩ := ho.shape
  have HO := Lib.hid ho
  have HS := Lib.hid (HS0.out.below hb)
  clear ho HS0
  go_wp2
  go_loop [6] (fun s => ∃ k : Nat, k ≤ bs.length ∧ s = .int .i64 k ∧ ((orderO (keyAt bs) bs.length).take k).find? (fun j => !skipAt sk j) = none) (fun s => bs.length - (intOf s).toNat)
  case atStart => exact ⟨0, by omega, rfl, rfl⟩
  case round =>
    obtain ⟨k, hk, rfl, hnot⟩ := hrel
    have HN := Lib.hid hnot
    clear hnot
    by_cases hlt : k < bs.length
    · obtain ⟨ob, oo, oc', he, _, _, _, hco⟩ := SlAt.pos HO.out (by omega)
      simp only [Value.slice.injEq, true_and] at he
      obtain ⟨rfl, rfl⟩ := he
      have hln := orderO_length (keyAt bs) bs.length
      obtain ⟨m, hm⟩ : ∃ m, m = (orderO (keyAt bs) bs.length)[k]'(by omega) := ⟨_, rfl⟩
      have hoc1 := hco k (by omega)
      rw [show (natI (orderO (keyAt bs) bs.length))[k]? = some (.int .i64 (m : Int)) by rw [hm]; simp [natI, hln, hlt]] at hoc1
      have hr : (orderO (keyAt bs) bs.length)[k]? = some m := by rw [hm]; simp [hln, hlt]
      have hmb : m < bs.length := by rw [hm]; exact orderO_lt _ _ _ (List.getElem_mem _)
      have HR := Lib.hid hr
      clear hm hr hln hco
      by_cases hms : m < sk.length
      · obtain ⟨bb, offb, capb, he, _, _, hcb⟩ := BoAt.at HS.out (by omega)
        simp only [Value.slice.injEq, true_and] at he
        obtain ⟨rfl, rfl⟩ := he
        have hcb' := hcb m hms
        have hge : decide ((sk.length : Int) ≤ (m : Int)) = false := by simp; omega
        clear hcb
        cases hsm : sk[m] with
        | true =>
          rw [hsm] at hcb'
          have HF := Lib.hid (fnone (fun j => !skipAt sk j) _ k m HR.out HN.out (by simp [skipAt, hms, hsm]))
          clear hsm
          go_wp2
          go_round
          case rel => exact ⟨k + 1, by omega, by go_num, HF.out⟩
          case measure => simp [intOf]; omega
        | false =>
          rw [hsm] at hcb'
          have HF := Lib.hid (fsome (fun j => !skipAt sk j) _ k m HR.out HN.out (by simp [skipAt, hms, hsm]))
          clear hsm
          go_wp2
          go_ret
          exact ⟨ret_int (by rw [HF.out]; rfl), hb⟩
      · have hge : decide ((sk.length : Int) ≤ (m : Int)) = true := by simp; omega
        have HF := Lib.hid (fsome (fun j => !skipAt sk j) _ k m HR.out HN.out (by simp [skipAt, hms]))
        go_wp2
        go_ret
        exact ⟨ret_int (by rw [HF.out]; rfl), hb⟩
    · have HF : Hid ((orderO (keyAt bs) bs.length).find? (fun j => !skipAt sk j) = none) := by
        have := HN.out
        rwa [List.take_of_length_le (by rw [orderO_length]; omega)] at this
      go_wp2
      go_ret
      exact ⟨ret_int (by rw [HF.out]; rfl), hb⟩
end Go.Proofs.Ytmeilhjloeghhaa
namespace Go.Proofs.Ytmeilhjloeghhaa
open Go.RowKit

theorem lessK_irrefl (a : Option Int) : lessK a a = false := by cases a <;> simp [lessK]
theorem lessK_asymm {a b : Option Int} (h : lessK a b = true) : lessK b a = false := by
  have := lessK_asym a b
  rw [h] at this; simpa using this

/-- a stands ahead of b in the order: less, or alike and ahead in the list -/
def ahead (ks : Nat → Option Int) (a b : Nat) : Prop := lessK (ks a) (ks b) = true ∨ (lessK (ks b) (ks a) = false ∧ a < b)
theorem ahead_trans {ks : Nat → Option Int} {a b c : Nat} (h1 : ahead ks a b) (h2 : ahead ks b c) : ahead ks a c := by
  rcases h1 with h1 | ⟨h1, l1⟩ <;> rcases h2 with h2 | ⟨h2, l2⟩
  · exact .inl (lessK_trans _ _ _ h1 h2)
  · cases hca : lessK (ks c) (ks a) with
    | true => have := lessK_trans _ _ _ hca h1; rw [h2] at this; cases this
    | false =>
      cases hac : lessK (ks a) (ks c) with
      | true => exact .inl hac
      | false =>
        exfalso
        cases hbc : lessK (ks b) (ks c) with
        | true => have := lessK_trans _ _ _ h1 hbc; rw [hac] at this; cases this
        | false =>
          have hba := lessK_asymm h1
          have := lessK_alike (ks a) (ks c) (ks b) hac hca h2 hbc
          rw [h1] at this; cases this.1
  · cases hca : lessK (ks c) (ks a) with
    | true => have := lessK_trans _ _ _ h2 hca; rw [h1] at this; cases this
    | false =>
      cases hac : lessK (ks a) (ks c) with
      | true => exact .inl hac
      | false =>
        exfalso
        cases hab : lessK (ks a) (ks b) with
        | true => have := lessK_trans _ _ _ hab h2; rw [hac] at this; cases this
        | false =>
          have := lessK_alike (ks b) (ks a) (ks c) h1 hab hac hca
          rw [h2] at this; cases this.1
  · cases hab : lessK (ks a) (ks b) with
    | true =>
      cases hca : lessK (ks c) (ks a) with
      | true => have := lessK_trans _ _ _ hca hab; rw [h2] at this; cases this
      | false => exact .inr ⟨hca, by omega⟩
    | false =>
      cases hbc : lessK (ks b) (ks c) with
      | true =>
        cases hca : lessK (ks c) (ks a) with
        | true => have := lessK_trans _ _ _ hbc hca; rw [h1] at this; cases this
        | false => exact .inr ⟨hca, by omega⟩
      | false =>
        have := lessK_alike (ks a) (ks b) (ks c) hab h1 hbc h2
        exact .inr ⟨this.2, by omega⟩
theorem ahead_total {ks : Nat → Option Int} {a b : Nat} (h : a ≠ b) : ahead ks a b ∨ ahead ks b a := by
  unfold ahead
  cases h1 : lessK (ks a) (ks b) <;> cases h2 : lessK (ks b) (ks a) <;> simp <;> omega
theorem ahead_asymm {ks : Nat → Option Int} {a b : Nat} (h1 : ahead ks a b) (h2 : ahead ks b a) : False := by
  rcases h1 with h1 | ⟨h1, l1⟩ <;> rcases h2 with h2 | ⟨h2, l2⟩
  · rw [lessK_asymm h1] at h2; cases h2
  · rw [h1] at h2; cases h2
  · rw [h1] at h2; cases h2
  · omega

theorem insert_sorted (ks : Nat → Option Int) (out : List Nat) (i : Nat) (hs : out.Pairwise (ahead ks)) (hlt : ∀ x ∈ out, x < i) : (insertO ks out i).Pairwise (ahead ks) := by
  have hle := List.findIdx_le_length (xs := out) (p := fun j => lessK (ks i) (ks j))
  have hbefore : ∀ x ∈ out.take (out.findIdx (fun j => lessK (ks i) (ks j))), ahead ks x i := fun x hx => by
    obtain ⟨j, hj, rfl⟩ := List.mem_take_iff_getElem.1 hx
    have := List.not_of_lt_findIdx (p := fun j => lessK (ks i) (ks j)) (xs := out) (i := j) (by omega)
    exact .inr ⟨by simpa using this, hlt _ (List.getElem_mem _)⟩
  have hafter : ∀ x ∈ out.drop (out.findIdx (fun j => lessK (ks i) (ks j))), ahead ks i x := fun x hx => by
    generalize hf : out.findIdx (fun j => lessK (ks i) (ks j)) = f at *
    rcases Nat.lt_or_ge f out.length with h | h
    · have h1 : lessK (ks i) (ks out[f]) = true := by
        have := List.findIdx_getElem (p := fun j => lessK (ks i) (ks j)) (xs := out) (w := by rw [hf]; exact h)
        simpa [hf] using this
      rw [List.drop_eq_getElem_cons h] at hx
      rcases List.mem_cons.1 hx with rfl | hx
      · exact .inl h1
      · have hp : (out.drop f).Pairwise (ahead ks) := hs.sublist (List.drop_sublist _ _)
        rw [List.drop_eq_getElem_cons h] at hp
        exact ahead_trans (.inl h1) ((List.pairwise_cons.1 hp).1 x hx)
    · rw [List.drop_eq_nil_of_le h] at hx; cases hx
  unfold insertO
  rw [List.append_assoc, List.pairwise_append]
  refine ⟨hs.sublist (List.take_sublist _ _), ?_, ?_⟩
  · rw [List.singleton_append, List.pairwise_cons]
    exact ⟨hafter, hs.sublist (List.drop_sublist _ _)⟩
  · intro a ha b hb
    rcases List.mem_append.1 hb with hb | hb
    · rw [List.mem_singleton.1 hb]; exact hbefore a ha
    · exact ahead_trans (hbefore a ha) (hafter b hb)
theorem orderO_sorted (ks : Nat → Option Int) : ∀ n, (orderO ks n).Pairwise (ahead ks)
  | 0 => List.Pairwise.nil
  | n + 1 => insert_sorted ks _ n (orderO_sorted ks n) (orderO_lt ks n)
theorem mem_insertO (ks : Nat → Option Int) (out : List Nat) (i x : Nat) : x ∈ insertO ks out i ↔ x = i ∨ x ∈ out := by
  unfold insertO
  have : x ∈ out ↔ x ∈ out.take (out.findIdx (fun j => lessK (ks i) (ks j))) ∨ x ∈ out.drop (out.findIdx (fun j => lessK (ks i) (ks j))) := by
    rw [← List.mem_append, List.take_append_drop]
  simp only [List.mem_append, List.mem_singleton]
  rw [this]
  constructor
  · rintro ((h | h) | h)
    · exact .inr (.inl h)
    · exact .inl h
    · exact .inr (.inr h)
  · rintro (h | h | h)
    · exact .inl (.inr h)
    · exact .inl (.inl h)
    · exact .inr h
theorem mem_orderO (ks : Nat → Option Int) : ∀ n x, x ∈ orderO ks n ↔ x < n
  | 0, x => by simp [orderO]
  | n + 1, x => by rw [orderO, mem_insertO, mem_orderO ks n x]; omega

/-- what the best place is -/
def IsBest (ks : Nat → Option Int) (sk : Nat → Bool) (n : Nat) : Option Nat → Prop
  | none => ∀ j, j < n → sk j = true
  | some b => b < n ∧ sk b = false ∧ ∀ j, j < n → sk j = false → j ≠ b → ahead ks b j
theorem IsBest.unique {ks : Nat → Option Int} {sk : Nat → Bool} {n : Nat} {a b : Option Nat} (ha : IsBest ks sk n a) (hb : IsBest ks sk n b) : a = b := by
  cases a with
  | none => cases b with
    | none => rfl
    | some b => have := ha b hb.1; rw [hb.2.1] at this; cases this
  | some a => cases b with
    | none => have := hb a ha.1; rw [ha.2.1] at this; cases this
    | some b =>
      by_cases e : a = b
      · rw [e]
      · exact (ahead_asymm (ha.2.2 b hb.1 hb.2.1 (Ne.symm e)) (hb.2.2 a ha.1 ha.2.1 e)).elim
theorem bestI_is (ks : Nat → Option Int) (sk : Nat → Bool) : ∀ n, IsBest ks sk n (bestI ks sk n)
  | 0 => fun j hj => by omega
  | n + 1 => by
    have ih := bestI_is ks sk n
    unfold bestI
    split
    · rename_i hs
      cases hb : bestI ks sk n with
      | none =>
        rw [hb] at ih
        intro j hj
        by_cases e : j = n
        · rw [e]; exact hs
        · exact ih j (by omega)
      | some b =>
        rw [hb] at ih
        refine ⟨by have := ih.1; omega, ih.2.1, fun j hj h1 h2 => ?_⟩
        by_cases e : j = n
        · rw [e, hs] at h1; cases h1
        · exact ih.2.2 j (by omega) h1 h2
    · rename_i hs
      have hs' : sk n = false := by simpa using hs
      cases hb : bestI ks sk n with
      | none =>
        rw [hb] at ih
        refine ⟨by omega, hs', fun j hj h1 h2 => ?_⟩
        have := ih j (by omega)
        rw [h1] at this; cases this
      | some b =>
        rw [hb] at ih
        have hbn := ih.1
        dsimp only
        split
        · rename_i hl
          refine ⟨by omega, hs', fun j hj h1 h2 => ?_⟩
          by_cases e : j = b
          · rw [e]; exact .inl hl
          · exact ahead_trans (.inl hl) (ih.2.2 j (by omega) h1 e)
        · rename_i hl
          refine ⟨by omega, ih.2.1, fun j hj h1 h2 => ?_⟩
          by_cases e : j = n
          · rw [e]; exact .inr ⟨by simpa using hl, hbn⟩
          · exact ih.2.2 j (by omega) h1 h2
theorem find_sorted {ks : Nat → Option Int} (p : Nat → Bool) : ∀ (l : List Nat), l.Pairwise (ahead ks) → ∀ b, l.find? p = some b → b ∈ l ∧ p b = true ∧ ∀ j ∈ l, p j = true → j ≠ b → ahead ks b j
  | [], _, b, h => by simp at h
  | x :: l, hs, b, h => by
    rw [List.pairwise_cons] at hs
    rw [List.find?_cons] at h
    cases hp : p x with
    | true =>
      rw [hp] at h
      injection h with h
      subst h
      refine ⟨List.mem_cons_self .., hp, fun j hj h1 h2 => ?_⟩
      rcases List.mem_cons.1 hj with rfl | hj
      · exact absurd rfl h2
      · exact hs.1 j hj
    | false =>
      rw [hp] at h
      obtain ⟨a1, a2, a3⟩ := find_sorted p l hs.2 b h
      refine ⟨List.mem_cons_of_mem _ a1, a2, fun j hj h1 h2 => ?_⟩
      rcases List.mem_cons.1 hj with rfl | hj
      · rw [hp] at h1; cases h1
      · exact a3 j hj h1 h2
theorem find_is (ks : Nat → Option Int) (sk : Nat → Bool) (n : Nat) : IsBest ks sk n ((orderO ks n).find? fun j => !sk j) := by
  cases h : (orderO ks n).find? fun j => !sk j with
  | none =>
    rw [List.find?_eq_none] at h
    intro j hj
    have := h j ((mem_orderO ks n j).2 hj)
    simpa using this
  | some b =>
    obtain ⟨a1, a2, a3⟩ := find_sorted _ _ (orderO_sorted ks n) b h
    refine ⟨(mem_orderO ks n b).1 a1, by simpa using a2, fun j hj h1 h2 => a3 j ((mem_orderO ks n j).2 hj) (by simp [h1]) h2⟩
/-- THE PLAIN LAW -/
theorem best_plain (ks : Nat → Option Int) (sk : Nat → Bool) (n : Nat) : ((orderO ks n).find? fun j => !sk j) = bestI ks sk n :=
  (find_is ks sk n).unique (bestI_is ks sk n)

/-- the best of two lists, one behind the other -/
theorem best_joined (ks : Nat → Option Int) (n m : Nat) :
    bestI ks (fun _ => false) (n + m) = match bestI ks (fun _ => false) n, bestI (fun j => ks (n + j)) (fun _ => false) m with
      | none, none => none
      | some a, none => some a
      | none, some b => some (n + b)
      | some a, some b => if lessK (ks (n + b)) (ks a) = true then some (n + b) else some a := by
  refine (bestI_is ks (fun _ => false) (n + m)).unique ?_
  have h1 := bestI_is ks (fun _ => false) n
  have h2 := bestI_is (fun j => ks (n + j)) (fun _ => false) m
  cases hb1 : bestI ks (fun _ => false) n with
  | none =>
    rw [hb1] at h1
    have hn : n = 0 := by
      rcases Nat.eq_zero_or_pos n with h | h
      · exact h
      · have := h1 0 h; cases this
    cases hb2 : bestI (fun j => ks (n + j)) (fun _ => false) m with
    | none =>
      rw [hb2] at h2
      intro j hj
      have := h2 j (by omega); cases this
    | some b =>
      rw [hb2] at h2
      refine ⟨by have := h2.1; omega, rfl, fun j hj _ hne => ?_⟩
      have := h2.2.2 (j - n) (by omega) rfl (by omega)
      unfold ahead at this ⊢
      dsimp only at this
      rw [show n + (j - n) = j by omega] at this
      rcases this with h | ⟨h, l⟩
      · exact .inl h
      · exact .inr ⟨h, by omega⟩
  | some a =>
    rw [hb1] at h1
    have ha := h1.1
    cases hb2 : bestI (fun j => ks (n + j)) (fun _ => false) m with
    | none =>
      rw [hb2] at h2
      have hm : m = 0 := by
        rcases Nat.eq_zero_or_pos m with h | h
        · exact h
        · have := h2 0 h; cases this
      exact ⟨by omega, rfl, fun j hj _ hne => h1.2.2 j (by omega) rfl hne⟩
    | some b =>
      rw [hb2] at h2
      have hb := h2.1
      have key : ∀ j, j < m → j ≠ b → ahead ks (n + b) (n + j) := fun j hj hne => by
        have := h2.2.2 j hj rfl hne
        unfold ahead at this ⊢
        rcases this with h | ⟨h, l⟩
        · exact .inl h
        · exact .inr ⟨h, by omega⟩
      dsimp only
      split
      · rename_i hl
        refine ⟨by omega, rfl, fun j hj _ hne => ?_⟩
        by_cases hjn : j < n
        · by_cases e : j = a
          · rw [e]; exact .inl hl
          · exact ahead_trans (.inl hl) (h1.2.2 j hjn rfl e)
        · have := key (j - n) (by omega) (by omega)
          rwa [show n + (j - n) = j by omega] at this
      · rename_i hl
        have hab : ahead ks a (n + b) := .inr ⟨by simpa using hl, by omega⟩
        refine ⟨by omega, rfl, fun j hj _ hne => ?_⟩
        by_cases hjn : j < n
        · exact h1.2.2 j hjn rfl hne
        · by_cases e : j - n = b
          · rw [show j = n + b by omega]; exact hab
          · have := key (j - n) (by omega) e
            rw [show n + (j - n) = j by omega] at this
            exact ahead_trans hab this
theorem bestI_congr {ks ks' : Nat → Option Int} {sk sk' : Nat → Bool} : ∀ n, (∀ j, j < n → ks j = ks' j ∧ sk j = sk' j) → bestI ks sk n = bestI ks' sk' n
  | 0, _ => rfl
  | n + 1, h => by
    have ih := bestI_congr n (fun j hj => h j (by omega))
    have hn := h n (by omega)
    unfold bestI
    rw [ih, hn.1, hn.2]
    split
    · rfl
    · cases hb : bestI ks' sk' n with
      | none => rfl
      | some b =>
        have := bestI_lt _ _ _ _ hb
        dsimp only
        rw [(h b (by omega)).1]
end Go.Proofs.Ytmeilhjloeghhaa
