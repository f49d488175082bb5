/-
  coneyref02.Best, walked; and the plain law: it is weigh.Best's.
-/
import Derived.Test.YtmeilhjloeghhaaOrd
namespace Go.Proofs.Ytmeilhjloeghhaa
open Go.RowKit

set_option maxHeartbeats 1600000 in
theorem refBest_any (v vs : Value) (bs : List Nat) (sk : List Bool) (w : World) (h : FlAt w v bs) (hs : BoAt w vs sk) (hl : bs.length ≤ 4096) (hl2 : sk.length ≤ 4096) :
    Calls Try.prog 13 #[v, vs] w fun e w' => e = .returned (.int .i64 (toI ((orderO (keyAt bs) bs.length).find? fun j => !skipAt sk j))) ∧ Below w.heap.size w w' := by
  obtain ⟨asl, caps, rfl, _⟩ := hs.shape
  have H := Lib.hid h
  have HS0 := Lib.hid hs
  clear h hs
  go_enter Try.func13, Try.ntmps13
  go_wp2_with (first | (go_at_call 17; ((with_reducible refine (refOrder_any _ _ _ H.out hl).mono ?_))))
  rintro e w1 ⟨vo, rfl, ho, hb⟩
  obtain ⟨ao, co, rfl, _⟩ := ho.shape
  have HO := Lib.hid ho
  have HS := Lib.hid (HS0.out.below hb)
  clear ho HS0
  go_wp2
  go_loop [6] (fun s => ∃ k : Nat, k ≤ bs.length ∧ s = .int .i64 k ∧ ((orderO (keyAt bs) bs.length).take k).find? (fun j => !skipAt sk j) = none) (fun s => bs.length - (intOf s).toNat)
  case atStart => exact ⟨0, by omega, rfl, rfl⟩
  case round =>
    obtain ⟨k, hk, rfl, hnot⟩ := hrel
    have HN := Lib.hid hnot
    clear hnot
    by_cases hlt : k < bs.length
    · obtain ⟨ob, oo, oc', he, _, _, _, hco⟩ := SlAt.pos HO.out (by omega)
      simp only [Value.slice.injEq, true_and] at he
      obtain ⟨rfl, rfl⟩ := he
      have hln := orderO_length (keyAt bs) bs.length
      obtain ⟨m, hm⟩ : ∃ m, m = (orderO (keyAt bs) bs.length)[k]'(by omega) := ⟨_, rfl⟩
      have hoc1 := hco k (by omega)
      rw [show (natI (orderO (keyAt bs) bs.length))[k]? = some (.int .i64 (m : Int)) by rw [hm]; simp [natI, hln, hlt]] at hoc1
      have hr : (orderO (keyAt bs) bs.length)[k]? = some m := by rw [hm]; simp [hln, hlt]
      have hmb : m < bs.length := by rw [hm]; exact orderO_lt _ _ _ (List.getElem_mem _)
      have HR := Lib.hid hr
      clear hm hr hln hco
      by_cases hms : m < sk.length
      · obtain ⟨bb, offb, capb, he, _, _, hcb⟩ := BoAt.at HS.out (by omega)
        simp only [Value.slice.injEq, true_and] at he
        obtain ⟨rfl, rfl⟩ := he
        have hcb' := hcb m hms
        have hge : decide ((sk.length : Int) ≤ (m : Int)) = false := by simp; omega
        clear hcb
        cases hsm : sk[m] with
        | true =>
          rw [hsm] at hcb'
          have HF := Lib.hid (fnone (fun j => !skipAt sk j) _ k m HR.out HN.out (by simp [skipAt, hms, hsm]))
          clear hsm
          go_wp2
          go_round
          case rel => exact ⟨k + 1, by omega, by go_num, HF.out⟩
          case measure => simp [intOf]; omega
        | false =>
          rw [hsm] at hcb'
          have HF := Lib.hid (fsome (fun j => !skipAt sk j) _ k m HR.out HN.out (by simp [skipAt, hms, hsm]))
          clear hsm
          go_wp2
          go_ret
          exact ⟨ret_int (by rw [HF.out]; rfl), hb⟩
      · have hge : decide ((sk.length : Int) ≤ (m : Int)) = true := by simp; omega
        have HF := Lib.hid (fsome (fun j => !skipAt sk j) _ k m HR.out HN.out (by simp [skipAt, hms]))
        go_wp2
        go_ret
        exact ⟨ret_int (by rw [HF.out]; rfl), hb⟩
    · have HF : Hid ((orderO (keyAt bs) bs.length).find? (fun j => !skipAt sk j) = none) := by
        have := HN.out
        rwa [List.take_of_length_le (by rw [orderO_length]; omega)] at this
      go_wp2
      go_ret
      exact ⟨ret_int (by rw [HF.out]; rfl), hb⟩
end Go.Proofs.Ytmeilhjloeghhaa
