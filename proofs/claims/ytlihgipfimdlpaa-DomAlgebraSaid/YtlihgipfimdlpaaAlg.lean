/-
  The law DomAlgebra, walked.
-/
import Derived.Test.YtlihgipfimdlpaaDomF
import Derived.Test.YtlihgipfimdlpaaDomC
import Derived.Test.YtlihgipfimdlpaaRefB
import Derived.Test.YtlihgipfimdlpaaTurns
namespace Go.Proofs.Ytlihgipfimdlpaa
open Go.RowKit

theorem same_b (va vb : Value) (a : List Rg) (w : World) (ha : RgAt w va a) (hb : RgAt w vb a) (hl : a.length ≤ 4096) :
    Calls Try.prog 12 #[va, vb] w fun e w' => e = .returned (.bool true) ∧ Below w.heap.size w w' :=
  (same_t va vb a w ha hb hl).mono fun _ _ ⟨he, q, hw⟩ => ⟨he, by rw [hw]; exact below_drewN (Below.refl _ _) q⟩
theorem alg_len (S : Int → Bool) : (canon S).length ≤ 2048 := Nat.le_trans (canon_len _) (by decide)
theorem alg_len4 (S : Int → Bool) : (canon S).length ≤ 4096 := Nat.le_trans (canon_len _) (by decide)
theorem alg_in (S : Int → Bool) (n : Int) (h1 : -200 ≤ n) (h2 : n ≤ 200) : memL (canon S) n = S n := by rw [canon_mem]; simp [h1, h2]
theorem alg_join (a b c : List Rg) : joinL a (meetL b c) = meetL (joinL a b) (joinL a c) := by
  unfold joinL meetL
  refine canon_congr fun n h1 h2 => ?_
  rw [alg_in _ _ h1 h2, alg_in _ _ h1 h2, alg_in _ _ h1 h2]
  cases memL a n <;> cases memL b n <;> cases memL c n <;> rfl
theorem alg_morgan (a b : List Rg) : complL (joinL a b) = meetL (complL a) (complL b) := by
  unfold joinL meetL complL
  refine canon_congr fun n h1 h2 => ?_
  rw [alg_in _ _ h1 h2, alg_in _ _ h1 h2, alg_in _ _ h1 h2]
  cases memL a n <;> cases memL b n <;> rfl
theorem alg_twice (a : List Rg) : complL (complL a) = norm a := by
  unfold complL norm
  refine canon_congr fun n h1 h2 => ?_
  rw [alg_in _ _ h1 h2]
  cases memL a n <;> rfl
theorem alg_size (a b : List Rg) : sizeL (joinL a b) + sizeL (meetL a b) = sizeL (norm a) + sizeL (norm b) := by
  unfold joinL meetL norm
  rw [sizeL_canon, sizeL_canon, sizeL_canon, sizeL_canon]
  exact cnt_join _ _ _ _
theorem alg_bnd (S : Int → Bool) : 0 ≤ sizeL (canon S) ∧ sizeL (canon S) ≤ 401 := by
  rw [sizeL_canon]; exact cnt_nonneg S 401 (-200)

set_option maxRecDepth 100000 in
set_option maxHeartbeats 3200000 in
theorem domAlgebra_any (va vb vc : Value) (a b c : List Rg) (w : World) (ha : RgAt w va a) (hb : RgAt w vb b) (hc : RgAt w vc c) :
    Calls Try.prog 8 #[va, vb, vc] w fun e w' => e = .returned (.bool true) ∧ Below w.heap.size w w' := by
  obtain ⟨ao, cap, rfl, _⟩ := ha.shape
  obtain ⟨ao2, cap2, rfl, _⟩ := hb.shape
  obtain ⟨ao3, cap3, rfl, _⟩ := hc.shape
  have CM := Lib.hid (many_c _ _ a b w ha hb)
  cases hm : (decide (100 < a.length) || decide (100 < b.length)) with
  | true =>
    rw [hm] at CM
    go_enter Try.func8, Try.ntmps8
    go_wp2_with (go_at_call 11; (with_reducible refine CM.out.mono ?_); rintro e w' ⟨rfl, rfl⟩)
    go_ret
    exact ⟨rfl, Below.refl _ _⟩
  | false =>
    rw [hm] at CM
    by_cases h3 : 100 < c.length
    · go_enter Try.func8, Try.ntmps8
      go_wp2_with (go_at_call 11; (with_reducible refine CM.out.mono ?_); rintro e w' ⟨rfl, rfl⟩)
      go_ret
      exact ⟨rfl, Below.refl _ _⟩
    simp only [Bool.or_eq_false_iff, decide_eq_false_iff_not] at hm
    have hla : a.length ≤ 4096 := by omega
    have hlb : b.length ≤ 4096 := by omega
    have hlc : c.length ≤ 4096 := by omega
    have hla2 : a.length ≤ 2048 := by omega
    have hlb2 : b.length ≤ 2048 := by omega
    have hlc2 : c.length ≤ 2048 := by omega
    have C1 : Hid (∀ W, Below w.heap.size w W → Calls Try.prog 17 #[.slice ao2 b.length cap2, .slice ao3 c.length cap3] W (RetR (meetL b c) W)) := fun W h => meet_c _ _ b c W (hb.below h) (hc.below h) hlb hlc
    have C2 : Hid (∀ W v, Below w.heap.size w W → RgAt W v (meetL b c) → Calls Try.prog 29 #[.slice ao a.length cap, v] W (RetR (joinL a (meetL b c)) W)) := fun W v h h0 => join_c _ v a _ W (ha.below h) h0 hla2 (alg_len _)
    have C3 : Hid (∀ W, Below w.heap.size w W → Calls Try.prog 29 #[.slice ao a.length cap, .slice ao2 b.length cap2] W (RetR (joinL a b) W)) := fun W h => join_c _ _ a b W (ha.below h) (hb.below h) hla2 hlb2
    have C4 : Hid (∀ W, Below w.heap.size w W → Calls Try.prog 29 #[.slice ao a.length cap, .slice ao3 c.length cap3] W (RetR (joinL a c) W)) := fun W h => join_c _ _ a c W (ha.below h) (hc.below h) hla2 hlc2
    have C5 : Hid (∀ W v v2, Below w.heap.size w W → RgAt W v (joinL a b) → RgAt W v2 (joinL a c) → Calls Try.prog 17 #[v, v2] W (RetR (joinL a (meetL b c)) W)) := fun W v v2 h h0 h1 => by rw [alg_join]; exact meet_c v v2 _ _ W h0 h1 (alg_len4 _) (alg_len4 _)
    have C6 : Hid (∀ W v, Below w.heap.size w W → RgAt W v (joinL a b) → Calls Try.prog 33 #[v] W (RetR (complL (joinL a b)) W)) := fun W v h h0 => compl_c v _ W h0 (alg_len4 _)
    have C7 : Hid (∀ W, Below w.heap.size w W → Calls Try.prog 33 #[.slice ao a.length cap] W (RetR (complL a) W)) := fun W h => compl_c _ a W (ha.below h) hla
    have C8 : Hid (∀ W, Below w.heap.size w W → Calls Try.prog 33 #[.slice ao2 b.length cap2] W (RetR (complL b) W)) := fun W h => compl_c _ b W (hb.below h) hlb
    have C9 : Hid (∀ W v v2, Below w.heap.size w W → RgAt W v (complL a) → RgAt W v2 (complL b) → Calls Try.prog 17 #[v, v2] W (RetR (complL (joinL a b)) W)) := fun W v v2 h h0 h1 => by rw [alg_morgan]; exact meet_c v v2 _ _ W h0 h1 (alg_len4 _) (alg_len4 _)
    have CA : Hid (∀ W v, Below w.heap.size w W → RgAt W v (complL a) → Calls Try.prog 33 #[v] W (RetR (norm a) W)) := fun W v h h0 => by rw [← alg_twice]; exact compl_c v _ W h0 (alg_len4 _)
    have CC : Hid (∀ W, Below w.heap.size w W → Calls Try.prog 31 #[.slice ao a.length cap, .slice ao2 b.length cap2] W (RetR (minusL a b) W)) := fun W h => minus_c _ _ a b W (ha.below h) (hb.below h) hla hlb
    have CD : Hid (∀ W v, Below w.heap.size w W → RgAt W v (complL b) → Calls Try.prog 17 #[.slice ao a.length cap, v] W (RetR (minusL a b) W)) := fun W v h h0 => by rw [← minus_eq]; exact meet_c _ v a _ W (ha.below h) h0 hla (alg_len4 _)
    have CE : Hid (∀ W v, Below w.heap.size w W → RgAt W v (joinL a b) → Calls Try.prog 19 #[v] W (fun e w' => e = .returned (.int .i64 (sizeL (joinL a b))) ∧ Below W.heap.size W w')) := fun W v h h0 => by have := size_c v _ W h0 (alg_len4 _); rwa [joinL, norm_canon] at this
    have CF : Hid (∀ W, Below w.heap.size w W → Calls Try.prog 17 #[.slice ao a.length cap, .slice ao2 b.length cap2] W (RetR (meetL a b) W)) := fun W h => meet_c _ _ a b W (ha.below h) (hb.below h) hla hlb
    have CG : Hid (∀ W v, Below w.heap.size w W → RgAt W v (meetL a b) → Calls Try.prog 19 #[v] W (fun e w' => e = .returned (.int .i64 (sizeL (meetL a b))) ∧ Below W.heap.size W w')) := fun W v h h0 => by have := size_c v _ W h0 (alg_len4 _); rwa [meetL, norm_canon] at this
    have CH : Hid (∀ W, Below w.heap.size w W → Calls Try.prog 19 #[.slice ao a.length cap] W (fun e w' => e = .returned (.int .i64 (sizeL (norm a))) ∧ Below W.heap.size W w')) := fun W h => size_c _ a W (ha.below h) hla
    have CI : Hid (∀ W, Below w.heap.size w W → Calls Try.prog 19 #[.slice ao2 b.length cap2] W (fun e w' => e = .returned (.int .i64 (sizeL (norm b))) ∧ Below W.heap.size W w')) := fun W h => size_c _ b W (hb.below h) hlb
    have CB : Hid (∀ W, Below w.heap.size w W → Calls Try.prog 18 #[.slice ao a.length cap] W (RetR (norm a) W)) := fun W h => refNorm_c _ a W (ha.below h) hla
    have hx : (joinL a (meetL b c)).length ≤ 4096 := alg_len4 _
    have hz : (complL (joinL a b)).length ≤ 4096 := alg_len4 _
    have hn : (norm a).length ≤ 4096 := alg_len4 _
    have hs : (minusL a b).length ≤ 4096 := alg_len4 _
    have hsum := alg_size a b
    have y1 : 0 ≤ sizeL (joinL a b) ∧ sizeL (joinL a b) ≤ 401 := alg_bnd _
    have y2 : 0 ≤ sizeL (meetL a b) ∧ sizeL (meetL a b) ≤ 401 := alg_bnd _
    have y3 : 0 ≤ sizeL (norm a) ∧ sizeL (norm a) ≤ 401 := alg_bnd _
    have y4 : 0 ≤ sizeL (norm b) ∧ sizeL (norm b) ≤ 401 := alg_bnd _
    obtain ⟨y11, y12⟩ := y1
    obtain ⟨y21, y22⟩ := y2
    obtain ⟨y31, y32⟩ := y3
    obtain ⟨y41, y42⟩ := y4
    clear ha hb hc
    generalize sizeL (joinL a b) = s1 at *
    generalize sizeL (meetL a b) = s2 at *
    generalize sizeL (norm a) = s3 at *
    generalize sizeL (norm b) = s4 at *
    generalize joinL a (meetL b c) = x0 at *
    generalize complL (joinL a b) = x1 at *
    generalize joinL a b = x2 at *
    generalize joinL a c = x3 at *
    generalize meetL b c = x4 at *
    generalize meetL a b = x5 at *
    generalize norm a = x6 at *
    generalize minusL a b = x7 at *
    generalize complL a = x8 at *
    generalize complL b = x9 at *
    have B0 : Hid (Below w.heap.size w w) := Below.refl _ _
    go_enter Try.func8, Try.ntmps8
    go_wp2_with (first
    | (go_at_call 11; (with_reducible refine CM.out.mono ?_); rintro e w' ⟨rfl, rfl⟩)
    | (go_at_call 17; (with_reducible refine (C1.out _ B0.out).mono ?_); rintro e Wm0 ⟨aam0, ccm0, rfl, rm, bm⟩; have B1 := Lib.hid (B0.out.trans (bm.mono B0.out.size)); have Rm0 := Lib.hid rm; clear rm bm)
    | (go_at_call 29; (with_reducible refine (C2.out _ _ B1.out Rm0.out).mono ?_); rintro e Wx1 ⟨aax1, ccx1, rfl, rx, bx⟩; have B2 := Lib.hid (B1.out.trans (bx.mono B1.out.size)); have Rx1 := Lib.hid rx; clear rx bx)
    | (go_at_call 29; (with_reducible refine (C3.out _ B2.out).mono ?_); rintro e Wu2 ⟨aau2, ccu2, rfl, ru, bu⟩; have B3 := Lib.hid (B2.out.trans (bu.mono B2.out.size)); have Rx2 := Lib.hid (Rx1.out.below bu); have Ru2 := Lib.hid ru; clear ru bu)
    | (go_at_call 29; (with_reducible refine (C4.out _ B3.out).mono ?_); rintro e Wv3 ⟨aav3, ccv3, rfl, rv, bv⟩; have B4 := Lib.hid (B3.out.trans (bv.mono B3.out.size)); have Rx3 := Lib.hid (Rx2.out.below bv); have Ru3 := Lib.hid (Ru2.out.below bv); have Rv3 := Lib.hid rv; clear rv bv)
    | (go_at_call 17; (with_reducible refine (C5.out _ _ _ B4.out Ru3.out Rv3.out).mono ?_); rintro e Wyy4 ⟨aayy4, ccyy4, rfl, ryy, byy⟩; have B5 := Lib.hid (B4.out.trans (byy.mono B4.out.size)); have Rx4 := Lib.hid (Rx3.out.below byy); have Ryy4 := Lib.hid ryy; clear ryy byy)
    | (go_at_call 29; (with_reducible refine (C3.out _ B5.out).mono ?_); rintro e Wu5 ⟨aau5, ccu5, rfl, ru, bu⟩; have B6 := Lib.hid (B5.out.trans (bu.mono B5.out.size)); have Rx5 := Lib.hid (Rx4.out.below bu); have Ryy5 := Lib.hid (Ryy4.out.below bu); have Ru5 := Lib.hid ru; clear ru bu)
    | (go_at_call 33; (with_reducible refine (C6.out _ _ B6.out Ru5.out).mono ?_); rintro e Wz6 ⟨aaz6, ccz6, rfl, rz, bz⟩; have B7 := Lib.hid (B6.out.trans (bz.mono B6.out.size)); have Rx6 := Lib.hid (Rx5.out.below bz); have Ryy6 := Lib.hid (Ryy5.out.below bz); have Rz6 := Lib.hid rz; clear rz bz)
    | (go_at_call 33; (with_reducible refine (C7.out _ B7.out).mono ?_); rintro e Wp7 ⟨aap7, ccp7, rfl, rp, bp⟩; have B8 := Lib.hid (B7.out.trans (bp.mono B7.out.size)); have Rx7 := Lib.hid (Rx6.out.below bp); have Ryy7 := Lib.hid (Ryy6.out.below bp); have Rz7 := Lib.hid (Rz6.out.below bp); have Rp7 := Lib.hid rp; clear rp bp)
    | (go_at_call 33; (with_reducible refine (C8.out _ B8.out).mono ?_); rintro e Wq8 ⟨aaq8, ccq8, rfl, rq, bq⟩; have B9 := Lib.hid (B8.out.trans (bq.mono B8.out.size)); have Rx8 := Lib.hid (Rx7.out.below bq); have Ryy8 := Lib.hid (Ryy7.out.below bq); have Rz8 := Lib.hid (Rz7.out.below bq); have Rp8 := Lib.hid (Rp7.out.below bq); have Rq8 := Lib.hid rq; clear rq bq)
    | (go_at_call 17; (with_reducible refine (C9.out _ _ _ B9.out Rp8.out Rq8.out).mono ?_); rintro e Wk9 ⟨aak9, cck9, rfl, rk, bk⟩; have B10 := Lib.hid (B9.out.trans (bk.mono B9.out.size)); have Rx9 := Lib.hid (Rx8.out.below bk); have Ryy9 := Lib.hid (Ryy8.out.below bk); have Rz9 := Lib.hid (Rz8.out.below bk); have Rk9 := Lib.hid rk; clear rk bk)
    | (go_at_call 12; (with_reducible refine (same_b _ _ _ _ Rx9.out Ryy9.out hx).mono ?_); rintro e W10s ⟨rfl, bb⟩; have B11 := Lib.hid (B10.out.trans (bb.mono B10.out.size)); have Rz10 := Lib.hid (Rz9.out.below bb); have Rk10 := Lib.hid (Rk9.out.below bb); clear bb)
    | (go_at_call 12; (with_reducible refine (same_b _ _ _ _ Rz10.out Rk10.out hz).mono ?_); rintro e W11s ⟨rfl, bb⟩; have B12 := Lib.hid (B11.out.trans (bb.mono B11.out.size)); clear bb)
    | (go_at_call 33; (with_reducible refine (C7.out _ B12.out).mono ?_); rintro e Wp12 ⟨aap12, ccp12, rfl, rp, bp⟩; have B13 := Lib.hid (B12.out.trans (bp.mono B12.out.size)); have Rp12 := Lib.hid rp; clear rp bp)
    | (go_at_call 33; (with_reducible refine (CA.out _ _ B13.out Rp12.out).mono ?_); rintro e Wq13 ⟨aaq13, ccq13, rfl, rq, bq⟩; have B14 := Lib.hid (B13.out.trans (bq.mono B13.out.size)); have Rq13 := Lib.hid rq; clear rq bq)
    | (go_at_call 18; (with_reducible refine (CB.out _ B14.out).mono ?_); rintro e Wn14 ⟨aan14, ccn14, rfl, rn, bn⟩; have B15 := Lib.hid (B14.out.trans (bn.mono B14.out.size)); have Rq14 := Lib.hid (Rq13.out.below bn); have Rn14 := Lib.hid rn; clear rn bn)
    | (go_at_call 12; (with_reducible refine (same_b _ _ _ _ Rq14.out Rn14.out hn).mono ?_); rintro e W15s ⟨rfl, bb⟩; have B16 := Lib.hid (B15.out.trans (bb.mono B15.out.size)); clear bb)
    | (go_at_call 31; (with_reducible refine (CC.out _ B16.out).mono ?_); rintro e Ws16 ⟨aas16, ccs16, rfl, rs, bs⟩; have B17 := Lib.hid (B16.out.trans (bs.mono B16.out.size)); have Rs16 := Lib.hid rs; clear rs bs)
    | (go_at_call 33; (with_reducible refine (C8.out _ B17.out).mono ?_); rintro e Wq17 ⟨aaq17, ccq17, rfl, rq, bq⟩; have B18 := Lib.hid (B17.out.trans (bq.mono B17.out.size)); have Rs17 := Lib.hid (Rs16.out.below bq); have Rq17 := Lib.hid rq; clear rq bq)
    | (go_at_call 17; (with_reducible refine (CD.out _ _ B18.out Rq17.out).mono ?_); rintro e Wt18 ⟨aat18, cct18, rfl, rt, bt⟩; have B19 := Lib.hid (B18.out.trans (bt.mono B18.out.size)); have Rs18 := Lib.hid (Rs17.out.below bt); have Rt18 := Lib.hid rt; clear rt bt)
    | (go_at_call 12; (with_reducible refine (same_b _ _ _ _ Rs18.out Rt18.out hs).mono ?_); rintro e W19s ⟨rfl, bb⟩; have B20 := Lib.hid (B19.out.trans (bb.mono B19.out.size)); clear bb)
    | (go_at_call 29; (with_reducible refine (C3.out _ B20.out).mono ?_); rintro e Wu20 ⟨aau20, ccu20, rfl, ru, bu⟩; have B21 := Lib.hid (B20.out.trans (bu.mono B20.out.size)); have Ru20 := Lib.hid ru; clear ru bu)
    | (go_at_call 19; (with_reducible refine (CE.out _ _ B21.out Ru20.out).mono ?_); rintro e W21v ⟨rfl, bb⟩; have B22 := Lib.hid (B21.out.trans (bb.mono B21.out.size)); clear bb)
    | (go_at_call 17; (with_reducible refine (CF.out _ B22.out).mono ?_); rintro e Wm22 ⟨aam22, ccm22, rfl, rm, bm⟩; have B23 := Lib.hid (B22.out.trans (bm.mono B22.out.size)); have Rm22 := Lib.hid rm; clear rm bm)
    | (go_at_call 19; (with_reducible refine (CG.out _ _ B23.out Rm22.out).mono ?_); rintro e W23v ⟨rfl, bb⟩; have B24 := Lib.hid (B23.out.trans (bb.mono B23.out.size)); clear bb)
    | (go_at_call 19; (with_reducible refine (CH.out _ B24.out).mono ?_); rintro e W24v ⟨rfl, bb⟩; have B25 := Lib.hid (B24.out.trans (bb.mono B24.out.size)); clear bb)
    | (go_at_call 19; (with_reducible refine (CI.out _ B25.out).mono ?_); rintro e W25v ⟨rfl, bb⟩; have B26 := Lib.hid (B25.out.trans (bb.mono B25.out.size)); clear bb))
    go_ret
    exact ⟨ret_bool (by first | rfl | (simp; done) | (simp; omega)), B26.out⟩
end Go.Proofs.Ytlihgipfimdlpaa
