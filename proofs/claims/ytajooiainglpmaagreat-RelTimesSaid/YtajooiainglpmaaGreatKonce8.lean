/-
  rel.Once of a constraint of kind 3 (differ), walked.
  rel.Once of a constraint of kind 4 (reified), walked.
  rel.Once of any constraint that Check has let by.
  PLAIN LAWS of the document's cut: single integers, rising, joined, are a normal list; no program.
-/
import Derived.Test.YtajooiainglpmaaGreatKonce5
import Derived.Test.YtajooiainglpmaaGreatKonce7
import Derived.Test.YtajooiainglpmaaGreatKrel2
import Derived.Test.YtajooiainglpmaaGreatKonce1
namespace Go.Proofs.YtajooiainglpmaaGreat
open Go.RowKit

set_option maxRecDepth 100000 in
set_option maxHeartbeats 3200000 in
theorem once3_c (va vb vv vds : Value) (rel c x y z : Int) (coef vars vs : List Int) (ds : Ds) (w : World) (h0 : IsAt w va coef) (h1 : IsAt w vb vars) (h2 : IsAt w vv vs) (hd : DsAt w vds ds)
    (hf : (PL.mk 3 rel c x y z coef vars vs).Fine ds) (hdl : ds.length ≤ 4096) (hdm : ∀ d ∈ ds, d.length ≤ 4096) :
    Calls Tryz.prog 12 #[propV 3 va vb rel c x y z vv, vds] w (RetO (onceP (PL.mk 3 rel c x y z coef vars vs) ds) w) := by
  obtain ⟨a0, c0, rfl, _⟩ := IsAt.shape h0
  obtain ⟨a1, c1, rfl, _⟩ := IsAt.shape h1
  obtain ⟨a2, c2, rfl, _⟩ := IsAt.shape h2
  obtain ⟨ad, cd, rfl, _⟩ := hd.shape
  have hall : (PL.mk 3 rel c x y z coef vars vs).all = vs := rfl
  have HZ : Hid (Below w.heap.size w (w.alloc (.cells #[.int .i64 3, .slice a0 coef.length c0, .slice a1 vars.length c1, .int .i64 rel, .int .i64 c, .int .i64 x, .int .i64 y, .int .i64 z, .slice a2 vs.length c2] 30))) := (Below.refl _ _).alloc (Nat.le_refl _) _
  have CO : Hid (Calls Tryz.prog 30 #[.agg #[.int .i64 3, .slice a0 coef.length c0, .slice a1 vars.length c1, .int .i64 rel, .int .i64 c, .int .i64 x, .int .i64 y, .int .i64 z, .slice a2 vs.length c2]] (w.alloc (.cells #[.int .i64 3, .slice a0 coef.length c0, .slice a1 vars.length c1, .int .i64 rel, .int .i64 c, .int .i64 x, .int .i64 y, .int .i64 z, .slice a2 vs.length c2] 30)) fun e w' => e = .returned (.iface 79 (.agg #[.slice a2 vs.length c2])) ∧ Below (w.alloc (.cells #[.int .i64 3, .slice a0 coef.length c0, .slice a1 vars.length c1, .int .i64 rel, .int .i64 c, .int .i64 x, .int .i64 y, .int .i64 z, .slice a2 vs.length c2] 30)).heap.size (w.alloc (.cells #[.int .i64 3, .slice a0 coef.length c0, .slice a1 vars.length c1, .int .i64 rel, .int .i64 c, .int .i64 x, .int .i64 y, .int .i64 z, .slice a2 vs.length c2] 30)) w') := of_c 3 a0 a1 a2 coef.length vars.length vs.length c0 c1 c2 rel c x y z _
  have CV : Hid (∀ W, Below w.heap.size w W → Calls Tryz.prog 155 #[.agg #[.slice a2 vs.length c2]] W fun e w' => ∃ ao cap, e = .returned (.slice ao vs.length cap) ∧ IsAt w' (.slice ao vs.length cap) vs ∧ Below W.heap.size W w') := fun W h => (varsDiff_c a2 vs.length c2 W).mono fun e w' ⟨he, hb⟩ => ⟨a2, c2, he, h2.below (h.trans (hb.mono h.size)), hb⟩
  have CNR : Hid (∀ W2 W5 vw bo g, Below w.heap.size w W2 → DsAt W2 vw (ds.map norm) → Below W2.heap.size W2 W5 → OutAt W5 W2.heap.size bo g (ds.map norm) → Calls Tryz.prog 154 #[.agg #[.slice a2 vs.length c2], vw, .func (.func 35) #[] #[.pointer (some ⟨bo, 0, none⟩)]] W5 (NarR (narrowKs (PL.mk 3 rel c x y z coef vars vs) (ds.map norm)) W2.heap.size bo g (ds.map norm) W5)) := fun W2 W5 vw bo g hW2 hvw hb5 ho =>
    narDiff_c _ _ vs (ds.map norm) (ds.map norm) W2 W5 W2.heap.size bo g rfl hb5 (h2.below hW2) hvw (fun v hv => by have := hf.vars v (by rw [hall]; exact hv); simp; omega) (by have := hf.vsl rfl; dsimp only at this; omega) (by simpa using hdl) (fun d hd => Nat.le_trans (len201 d hd) (by decide)) ho rfl
  have CN : Hid (∀ d, d ∈ ds → ∀ vd W, RgAt W vd d → Calls Tryz.prog 31 #[vd] W (RetR (norm d) W)) := fun d hm vd W hr => norm_c vd d W hr (hdm d hm)
  have HD := Lib.hid hd
  have HST := Lib.hid (normTo_step ds)
  have HNL := Lib.hid (normTo_len ds)
  have HST2 := Lib.hid (normTo_step (ds.map norm))
  have HNL2 := Lib.hid (normTo_len (ds.map norm))
  have H02 := Lib.hid (normTo_zero (ds.map norm))
  have HA2 : Hid (normTo (ds.map norm) (ds.map norm).length = ds.map norm) := (normTo_all _).trans (norm_norm_map ds)
  have HWL : Hid ((ds.map norm).length = ds.length) := by show _ = _; simp
  have HW2 : Hid (∀ d ∈ ds.map norm, d.length ≤ 201) := len201
  have HNN : Hid (∀ d ∈ ds.map norm, norm d = d) := fun d hd => by obtain ⟨e, _, rfl⟩ := List.mem_map.1 hd; exact norm_norm e
  have HAL : Hid (vs.length ≤ 4097) := by
    show _ ≤ _
    have := hf.vsl rfl; dsimp only at this; omega
  have HVV : Hid (∀ v ∈ vs, 0 ≤ v ∧ v.toNat < (ds.map norm).length) := fun v hv => by have := hf.vars v hv; simpa using this
  have hmk := mk_rows ds.length hdl
  have EN : Hid (anyNil vs (ds.map norm) = true → onceP (PL.mk 3 rel c x y z coef vars vs) ds = none) := fun h => onceP_nil (p := (PL.mk 3 rel c x y z coef vars vs)) h
  have ENo : Hid (anyNil vs (ds.map norm) = false → narrowKs (PL.mk 3 rel c x y z coef vars vs) (ds.map norm) = none → onceP (PL.mk 3 rel c x y z coef vars vs) ds = none) := fun h hk => onceP_no (p := (PL.mk 3 rel c x y z coef vars vs)) h hk
  have EG : Hid (∀ ks, anyNil vs (ds.map norm) = false → narrowKs (PL.mk 3 rel c x y z coef vars vs) (ds.map norm) = some ks → anyNil vs (keepsL ks (ds.map norm)) = true → onceP (PL.mk 3 rel c x y z coef vars vs) ds = none) := fun ks h hk he => onceP_gone (p := (PL.mk 3 rel c x y z coef vars vs)) h hk he
  have ES : Hid (∀ ks, anyNil vs (ds.map norm) = false → narrowKs (PL.mk 3 rel c x y z coef vars vs) (ds.map norm) = some ks → anyNil vs (keepsL ks (ds.map norm)) = false → onceP (PL.mk 3 rel c x y z coef vars vs) ds = some (keepsL ks (ds.map norm))) := fun ks h hk he => onceP_some (p := (PL.mk 3 rel c x y z coef vars vs)) h hk he
  clear h0 h1 h2 hd hf hdm hall
  generalize onceP (PL.mk 3 rel c x y z coef vars vs) ds = RES at *
  generalize narrowKs (PL.mk 3 rel c x y z coef vars vs) (ds.map norm) = NK at *
  obtain ⟨was, hwas⟩ : ∃ was, was = ds.map norm := ⟨_, rfl⟩
  have HTA := Lib.hid (normTo_all ds)
  rw [← hwas] at CNR HST2 HNL2 H02 HA2 HWL HW2 HNN HVV EN ENo EG ES HTA
  have HWS := Lib.hid hwas
  clear hwas
  unfold propV
  go_enter Tryz.func12, Tryz.ntmps12
  go_wp2_with (go_at_call 30; (with_reducible refine CO.out.mono ?_); rintro e W1 ⟨rfl, bb⟩; have B1 := Lib.hid (HZ.out.trans (bb.mono HZ.out.size)); clear bb)
  obtain ⟨BO, hBO⟩ : ∃ BO, BO = W1.heap.size := ⟨_, rfl⟩
  rw [← hBO]
  have HSZ := Lib.hid hBO.symm
  clear hBO
  go_loopw [22] (fun s wr => ∃ k : Nat, k ≤ ds.length ∧ s = .int .i64 k ∧ DsOwn wr BO (.slice (some ⟨BO, 0, none⟩) ds.length ds.length) (normTo ds k) ∧ Below W1.heap.size W1 wr) (fun s _ => ds.length - (intOf s).toNat)
  case atStart => exact ⟨0, by omega, rfl, by rw [normTo_zero]; have h := DsOwn.made W1 ds.length (by unfold maxLen; omega) _ rfl; rw [HSZ.out] at h; exact h, (Below.refl _ _).alloc (Nat.le_refl _) _⟩
  case round =>
    obtain ⟨k, hk, rfl, hown, hbel⟩ := hrel
    have HB1 := Lib.hid hbel
    have hle := hbel.size
    have hwl := B1.out.size
    clear hbel
    by_cases hlt : k < ds.length
    · obtain ⟨b, off, ao, cap, rfl, q1, q2, _, hc, hrg⟩ := (HD.out).get k hlt
      have j1 : (k : Int) < ds.length := by omega
      have hbw : Below w.heap.size w wr := B1.out.trans (HB1.out.mono hwl)
      rw [← hbw.cell (p := ⟨b, off + k, none⟩) q2] at hc
      have CN1 := Lib.hid (CN.out ds[k] (List.getElem_mem hlt) _ wr (hrg.below hbw))
      have hst := Lib.hid (HST.out k hlt)
      have hnl := HNL.out k hk
      clear hrg hbw
      generalize ds[k] = d at *
      go_wp2_with (go_at_call 31; (with_reducible refine CN1.out.mono ?_); rintro e W3 ⟨a3, c3, rfl, r3, b3⟩; have HO := Lib.hid (hown.below b3); have B3 := Lib.hid (HB1.out.trans (b3.mono hle)); have R3 := Lib.hid r3; obtain ⟨u3, z2, z3⟩ := HO.out.cellAt k (Nat.lt_of_lt_of_eq hlt hnl.symm); clear b3 r3)
      refine ⟨⟨k + 1, by omega, by go_num, ?_, B3.out.setCell (p := ⟨BO, k, none⟩) (Nat.le_of_eq HSZ.out) _⟩, by simp [intOf]; omega⟩
      rw [hst.out]
      have := HO.out
      rw [← hnl] at this ⊢
      exact DsOwn.set this k (by omega) R3.out
    · obtain rfl : k = ds.length := by omega
      rw [HTA.out] at hown
      clear CN HST HNL HTA hlt hk CO
      obtain ⟨W2, hW2⟩ : ∃ W2 : World, W2 = wr := ⟨_, rfl⟩
      subst hW2
      have BW2 := Lib.hid (B1.out.trans (HB1.out.mono hwl))
      have HWA : Hid (DsAt W2 (.slice (some ⟨BO, 0, none⟩) ds.length ds.length) was) := by
        have := hown.at; exact this
      have hbo : BO < W2.heap.size := by
        have h1 := HSZ.out
        have h2 := HB1.out.size
        rcases Nat.lt_or_ge BO W2.heap.size with h | h
        · exact h
        · exfalso
          obtain ⟨us, _, ow, _⟩ := hown
          have := (ow.lt BO rfl).2
          omega
      have OM := Lib.hid (outAt_made W2 ds.length hdl 22 33 rfl)
      have hwl2 := HWL.out
      clear hown hle hwl HB1
      go_wp2
      go_loopw [38] (fun s wr => ∃ k : Nat, k ≤ ds.length ∧ s = .int .i64 k ∧ Hid (OutAt wr W2.heap.size (W2.heap.size + 1) W2.heap.size (normTo was k)) ∧ Hid (Below W2.heap.size W2 wr)) (fun s _ => ds.length - (intOf s).toNat)
      case atStart => exact ⟨0, by omega, rfl, by rw [H02.out, HWL.out]; exact OM, Lib.hid (((Below.refl _ _).alloc (Nat.le_refl _) _).alloc (by simp) _)⟩
      case round =>
        clear OM
        obtain ⟨k, hk, rfl, HOq, HBq⟩ := hrel
        by_cases hlt : k < ds.length
        · have hkw : k < was.length := by omega
          obtain ⟨b, off, ao, cap, he, q1, q2, hnq, hc, hrg⟩ := HWA.out.get k hkw
          clear hnq
          simp only [Option.some.injEq, Addr.mk.injEq, and_true] at he
          obtain ⟨rfl, rfl⟩ := he
          rw [Nat.zero_add] at hc
          have j1 : (k : Int) < ds.length := by omega
          have hwm := HW2.out was[k] (List.getElem_mem hkw)
          have hnn := HNN.out was[k] (List.getElem_mem hkw)
          have CC : Hid (∀ W, Below W2.heap.size W2 W → Calls Tryz.prog 32 #[.slice ao was[k].length cap] W (RetN was[k] W)) := fun W h => clone_n _ was[k] W (hrg.below h) (by omega)
          have hst := HST2.out k hkw
          rw [hnn] at hst
          have HSTk := Lib.hid hst
          have hnl := HNL2.out k (by omega)
          have hsh := normTo_short was k
          clear hrg hnn hst
          generalize was[k] = d at *
          obtain ⟨u5, v5, _, _, _, hgl, hco, hfo, hrr⟩ := HOq.out.own.get' k (by omega)
          clear hrr
          have hb0 := HOq.out.box.c0
          rw [hnl, hwl2] at hb0
          have HR : Hid (∀ W, Below wr.heap.size wr W → W.cell? ⟨W2.heap.size + 1, 0, none⟩ = some (.slice (some ⟨W2.heap.size, 0, none⟩) ds.length ds.length) ∧ W.cell? ⟨BO, k, none⟩ = some (.slice ao d.length cap) ∧ W.cell? ⟨W2.heap.size, k, none⟩ = some (.slice u5 (normTo was k)[k].length v5) ∧ W.frozen? ⟨W2.heap.size, k, none⟩ = false) := fun W h =>
            ⟨(h.cell (p := ⟨W2.heap.size + 1, 0, none⟩) HOq.out.box.lt).trans hb0, ((HBq.out.trans (h.mono HBq.out.size)).cell (p := ⟨BO, k, none⟩) hbo).trans hc, (h.cell (p := ⟨W2.heap.size, k, none⟩) hgl).trans hco, (h.frozen (p := ⟨W2.heap.size, k, none⟩) hgl).trans hfo⟩
          clear hc hb0 hco hfo
          generalize (normTo was k)[k].length = ol at *
          have HSH := Lib.hid hsh
          have HNLk := Lib.hid hnl
          have HWL2 := Lib.hid hwl2
          clear hsh hnl hwl2
          obtain ⟨y0, y1, y2, y3⟩ := HR.out wr (Below.refl _ _)
          go_wp2
          go_region_with ((go_at_call 32; (with_reducible refine (CC.out _ ?_).mono ?_); (· exact HBq.out.drew); rintro e W6 ⟨a6, c6, rfl, r6, b6, _⟩; have bw6 : Below wr.heap.size wr W6 := Below.trans ((Below.refl _ wr).drew) b6; obtain ⟨y4, y5, y6, y7⟩ := HR.out W6 bw6; have R6 := Lib.hid r6; have B6 := Lib.hid bw6; clear b6 r6 bw6))
          all_goals
            go_wp2
            refine ⟨⟨k + 1, by omega, by go_num, ?_, Lib.hid ((HBq.out.trans (B6.out.mono HBq.out.size)).setCell (p := ⟨W2.heap.size, k, none⟩) (Nat.le_refl _) _)⟩, by simp [intOf]; omega⟩
            have ho6 := HOq.out.below B6.out
            have hnl := HNLk.out
            have hwl2 := HWL2.out
            rw [HSTk.out]
            refine ⟨?_, ?_, ho6.ne, ho6.low, ho6.gl, ?_⟩
            · rw [List.length_set]; exact DsOwn.set ho6.own k (by omega) R6.out
            · rw [List.length_set]; exact ho6.box.far (a := ⟨W2.heap.size, k, none⟩) (by dsimp only; omega) _
            · intro x hx
              rcases List.mem_or_eq_of_mem_set hx with hx | rfl
              · exact HSH.out x hx
              · omega
        · obtain rfl : k = ds.length := by omega
          rw [← hwl2, HA2.out] at HOq
          clear HST2 HNL2 H02 HA2 HW2 HNN hlt hk hmk
          have BWq := Lib.hid (BW2.out.trans (HBq.out.mono BW2.out.size))
          cases ANY : anyNil vs was with
          | true =>
            have HRES := Lib.hid (EN.out ANY)
            clear EN ENo EG ES CNR
            go_wp2_with (first
              | (go_at_call 155; (with_reducible refine (CV.out _ BWq.out).mono ?_); rintro e W5 ⟨a5, c5, rfl, i5, b5⟩; have B5 : Hid (Below W2.heap.size W2 W5) := HBq.out.trans (b5.mono HBq.out.size); have O5 := Lib.hid (HOq.out.below b5); have I5 := Lib.hid i5; have CE5 := Lib.hid (containsEmp_any W2.heap.size (W2.heap.size + 1) W2.heap.size was _ vs W5 O5.out I5.out HAL.out HVV.out); rw [empty_any, ANY] at CE5; clear b5 i5)
              | (go_at_call 34; (with_reducible refine CE5.out.mono ?_); rintro e w' ⟨rfl, rfl⟩))
            go_ret2
            exact ⟨BW2.out.trans (B5.out.mono BW2.out.size), .inr ⟨HRES.out, rfl⟩⟩
          | false =>
            have EN1 := Lib.hid (ENo.out ANY)
            have EG1 := Lib.hid (fun ks => EG.out ks ANY)
            have ES1 := Lib.hid (fun ks => ES.out ks ANY)
            clear EN ENo EG ES
            have CN5 : Hid (∀ W5, Below W2.heap.size W2 W5 → OutAt W5 W2.heap.size (W2.heap.size + 1) W2.heap.size was → Calls Tryz.prog 154 #[.agg #[.slice a2 vs.length c2], .slice (some ⟨BO, 0, none⟩) ds.length ds.length, .func (.func 35) #[] #[.pointer (some ⟨W2.heap.size + 1, 0, none⟩)]] W5 (NarR NK W2.heap.size (W2.heap.size + 1) W2.heap.size was W5)) := fun W5 hb ho => CNR.out W2 W5 _ _ _ BW2.out HWA.out hb ho
            cases NK with
            | none =>
              have HRES := Lib.hid (EN1.out rfl)
              have CN6 : Hid (∀ W5, Below W2.heap.size W2 W5 → OutAt W5 W2.heap.size (W2.heap.size + 1) W2.heap.size was → Calls Tryz.prog 154 #[.agg #[.slice a2 vs.length c2], .slice (some ⟨BO, 0, none⟩) ds.length ds.length, .func (.func 35) #[] #[.pointer (some ⟨W2.heap.size + 1, 0, none⟩)]] W5 fun e W' => e = .returned (.bool false) ∧ Below W2.heap.size W5 W') := fun W5 hb ho =>
                (CN5.out W5 hb ho).mono fun e W' h => by
                  obtain ⟨hb1, _, ⟨ks, hk, _⟩ | ⟨_, he⟩⟩ := h
                  · cases hk
                  · exact ⟨he, hb1⟩
              clear CN5 CNR EN1 EG1 ES1
              go_wp2_with (first
                | (go_at_call 155; (with_reducible refine (CV.out _ BWq.out).mono ?_); rintro e W5 ⟨a5, c5, rfl, i5, b5⟩; have B5 : Hid (Below W2.heap.size W2 W5) := HBq.out.trans (b5.mono HBq.out.size); have O5 := Lib.hid (HOq.out.below b5); have I5 := Lib.hid i5; have CE5 := Lib.hid (containsEmp_any W2.heap.size (W2.heap.size + 1) W2.heap.size was _ vs W5 O5.out I5.out HAL.out HVV.out); rw [empty_any, ANY] at CE5; clear b5 i5)
                | (go_at_call 34; (with_reducible refine CE5.out.mono ?_); rintro e w' ⟨rfl, rfl⟩)
                | (go_at_call 154; (with_reducible refine (CN6.out _ B5.out O5.out).mono ?_); rintro e W7 ⟨rfl, b7⟩))
              go_ret2
              exact ⟨BW2.out.trans ((B5.out.trans b7).mono BW2.out.size), .inr ⟨HRES.out, rfl⟩⟩
            | some ks =>
              have CN6 : Hid (∀ W5, Below W2.heap.size W2 W5 → OutAt W5 W2.heap.size (W2.heap.size + 1) W2.heap.size was → Calls Tryz.prog 154 #[.agg #[.slice a2 vs.length c2], .slice (some ⟨BO, 0, none⟩) ds.length ds.length, .func (.func 35) #[] #[.pointer (some ⟨W2.heap.size + 1, 0, none⟩)]] W5 fun e W' => e = .returned (.bool true) ∧ Below W2.heap.size W5 W' ∧ Stay W5 W' W2.heap.size ∧ OutAt W' W2.heap.size (W2.heap.size + 1) W2.heap.size (keepsL ks was)) := fun W5 hb ho =>
                (CN5.out W5 hb ho).mono fun e W' h => by
                  obtain ⟨hb1, hs1, ⟨ks', hk, he, ho'⟩ | ⟨hk, _⟩⟩ := h
                  · injection hk with hk; subst hk; exact ⟨he, hb1, hs1, ho'⟩
                  · cases hk
              have EG2 := Lib.hid (EG1.out ks rfl)
              have ES2 := Lib.hid (ES1.out ks rfl)
              have HKL : Hid ((keepsL ks was).length = was.length) := keepsL_len ks was
              clear CN5 CNR EN1 EG1 ES1
              generalize keepsL ks was = fin at *
              have HV2 : Hid (∀ v ∈ vs, 0 ≤ v ∧ v.toNat < fin.length) := fun v hv => by rw [HKL.out]; exact HVV.out v hv
              cases ANY2 : anyNil vs fin with
              | true =>
                have HRES := Lib.hid (EG2.out ANY2)
                clear EG2 ES2
                go_wp2_with (first
                  | (go_at_call 155; (with_reducible refine (CV.out _ BWq.out).mono ?_); rintro e W5 ⟨a5, c5, rfl, i5, b5⟩; have B5 : Hid (Below W2.heap.size W2 W5) := HBq.out.trans (b5.mono HBq.out.size); have O5 := Lib.hid (HOq.out.below b5); have I5 := Lib.hid i5; have CE5 := Lib.hid (containsEmp_any W2.heap.size (W2.heap.size + 1) W2.heap.size was _ vs W5 O5.out I5.out HAL.out HVV.out); rw [empty_any, ANY] at CE5; clear b5 i5)
                  | (go_at_call 34; (with_reducible refine CE5.out.mono ?_); rintro e w' ⟨rfl, rfl⟩)
                  | (go_at_call 154; (with_reducible refine (CN6.out _ B5.out O5.out).mono ?_); rintro e W7 ⟨rfl, b7, s7, o7⟩; have CE7 := Lib.hid (containsEmp_any W2.heap.size (W2.heap.size + 1) W2.heap.size fin _ vs W7 o7 (I5.out.stayO O5.out s7) HAL.out HV2.out); rw [empty_any, ANY2] at CE7; clear CE5)
                  | (go_at_call 34; (with_reducible refine CE7.out.mono ?_); rintro e w' ⟨rfl, rfl⟩))
                go_ret2
                exact ⟨BW2.out.trans ((B5.out.trans b7).mono BW2.out.size), .inr ⟨HRES.out, rfl⟩⟩
              | false =>
                have HRES := Lib.hid (ES2.out ANY2)
                clear EG2 ES2
                go_wp2_with (first
                  | (go_at_call 155; (with_reducible refine (CV.out _ BWq.out).mono ?_); rintro e W5 ⟨a5, c5, rfl, i5, b5⟩; have B5 : Hid (Below W2.heap.size W2 W5) := HBq.out.trans (b5.mono HBq.out.size); have O5 := Lib.hid (HOq.out.below b5); have I5 := Lib.hid i5; have CE5 := Lib.hid (containsEmp_any W2.heap.size (W2.heap.size + 1) W2.heap.size was _ vs W5 O5.out I5.out HAL.out HVV.out); rw [empty_any, ANY] at CE5; clear b5 i5)
                  | (go_at_call 34; (with_reducible refine CE5.out.mono ?_); rintro e w' ⟨rfl, rfl⟩)
                  | (go_at_call 154; (with_reducible refine (CN6.out _ B5.out O5.out).mono ?_); rintro e W7 ⟨rfl, b7, s7, o7⟩; have CE7 := Lib.hid (containsEmp_any W2.heap.size (W2.heap.size + 1) W2.heap.size fin _ vs W7 o7 (I5.out.stayO O5.out s7) HAL.out HV2.out); rw [empty_any, ANY2] at CE7; have hbx7 := o7.box.c0; clear CE5)
                  | (go_at_call 34; (with_reducible refine CE7.out.mono ?_); rintro e w' ⟨rfl, rfl⟩))
                go_ret2
                exact ⟨BW2.out.trans ((B5.out.trans b7).mono BW2.out.size), .inl ⟨fin, _, _, HRES.out, rfl, o7.at⟩⟩
end Go.Proofs.YtajooiainglpmaaGreat
namespace Go.Proofs.YtajooiainglpmaaGreat
open Go.RowKit

set_option maxRecDepth 100000 in
set_option maxHeartbeats 3200000 in
theorem once4_c (va vb vv vds : Value) (rel c : Int) (nx : Nat) (y z : Int) (coef vars vs : List Int) (ds : Ds) (w : World) (h0 : IsAt w va coef) (h1 : IsAt w vb vars) (h2 : IsAt w vv vs) (hd : DsAt w vds ds)
    (hf : (PL.mk 4 rel c (nx : Int) y z coef vars vs).Fine ds) (hdl : ds.length ≤ 4096) (hdm : ∀ d ∈ ds, d.length ≤ 4096) :
    Calls Tryz.prog 12 #[propV 4 va vb rel c (nx : Int) y z vv, vds] w (RetO (onceP (PL.mk 4 rel c (nx : Int) y z coef vars vs) ds) w) := by
  obtain ⟨a0, c0, rfl, _⟩ := IsAt.shape h0
  obtain ⟨a1, c1, rfl, _⟩ := IsAt.shape h1
  obtain ⟨a2, c2, rfl, _⟩ := IsAt.shape h2
  obtain ⟨ad, cd, rfl, _⟩ := hd.shape
  have hall : (PL.mk 4 rel c (nx : Int) y z coef vars vs).all = ((nx : Int) :: vars) := rfl
  have HZ : Hid (Below w.heap.size w (w.alloc (.cells #[.int .i64 4, .slice a0 coef.length c0, .slice a1 vars.length c1, .int .i64 rel, .int .i64 c, .int .i64 nx, .int .i64 y, .int .i64 z, .slice a2 vs.length c2] 30))) := (Below.refl _ _).alloc (Nat.le_refl _) _
  have CO : Hid (Calls Tryz.prog 30 #[.agg #[.int .i64 4, .slice a0 coef.length c0, .slice a1 vars.length c1, .int .i64 rel, .int .i64 c, .int .i64 nx, .int .i64 y, .int .i64 z, .slice a2 vs.length c2]] (w.alloc (.cells #[.int .i64 4, .slice a0 coef.length c0, .slice a1 vars.length c1, .int .i64 rel, .int .i64 c, .int .i64 nx, .int .i64 y, .int .i64 z, .slice a2 vs.length c2] 30)) fun e w' => e = .returned (.iface 77 (.agg #[.int .i64 nx, .slice a0 coef.length c0, .slice a1 vars.length c1, .int .i64 rel, .int .i64 c])) ∧ Below (w.alloc (.cells #[.int .i64 4, .slice a0 coef.length c0, .slice a1 vars.length c1, .int .i64 rel, .int .i64 c, .int .i64 nx, .int .i64 y, .int .i64 z, .slice a2 vs.length c2] 30)).heap.size (w.alloc (.cells #[.int .i64 4, .slice a0 coef.length c0, .slice a1 vars.length c1, .int .i64 rel, .int .i64 c, .int .i64 nx, .int .i64 y, .int .i64 z, .slice a2 vs.length c2] 30)) w') := of_c 4 a0 a1 a2 coef.length vars.length vs.length c0 c1 c2 rel c (nx : Int) y z _
  have CV : Hid (∀ W, Below w.heap.size w W → Calls Tryz.prog 146 #[.agg #[.int .i64 nx, .slice a0 coef.length c0, .slice a1 vars.length c1, .int .i64 rel, .int .i64 c]] W fun e w' => ∃ ao cap, e = .returned (.slice ao (vars.length + 1) cap) ∧ IsAt w' (.slice ao (vars.length + 1) cap) ((nx : Int) :: vars) ∧ Below W.heap.size W w') := fun W h => varsReif_c nx rel c a0 coef.length c0 _ vars W (h1.below h) (by have := (hf.lin (.inr rfl)).1.len; have := (hf.lin (.inr rfl)).1.le16; dsimp only at *; omega)
  have CNR : Hid (∀ W2 W5 vw bo g, Below w.heap.size w W2 → DsAt W2 vw (ds.map norm) → Below W2.heap.size W2 W5 → OutAt W5 W2.heap.size bo g (ds.map norm) → Calls Tryz.prog 145 #[.agg #[.int .i64 nx, .slice a0 coef.length c0, .slice a1 vars.length c1, .int .i64 rel, .int .i64 c], vw, .func (.func 35) #[] #[.pointer (some ⟨bo, 0, none⟩)]] W5 (NarR (narrowKs (PL.mk 4 rel c (nx : Int) y z coef vars vs) (ds.map norm)) W2.heap.size bo g (ds.map norm) W5)) := fun W2 W5 vw bo g hW2 hvw hb5 ho =>
    narReif_c _ _ _ nx rel c coef vars (ds.map norm) (ds.map norm) W2 W5 W2.heap.size bo g rfl hb5 (h0.below hW2) (h1.below hW2) hvw (good_norm (hf.lin (.inr rfl)).1) (hf.lin (.inr rfl)).2.1 (hf.lin (.inr rfl)).2.2.1 (hf.lin (.inr rfl)).2.2.2.1 (by have := (hf.vars nx (by rw [hall]; simp)).2; simpa using this) (by simpa using hdl) (allN_norm ds) ho rfl
  have CN : Hid (∀ d, d ∈ ds → ∀ vd W, RgAt W vd d → Calls Tryz.prog 31 #[vd] W (RetR (norm d) W)) := fun d hm vd W hr => norm_c vd d W hr (hdm d hm)
  have HD := Lib.hid hd
  have HST := Lib.hid (normTo_step ds)
  have HNL := Lib.hid (normTo_len ds)
  have HST2 := Lib.hid (normTo_step (ds.map norm))
  have HNL2 := Lib.hid (normTo_len (ds.map norm))
  have H02 := Lib.hid (normTo_zero (ds.map norm))
  have HA2 : Hid (normTo (ds.map norm) (ds.map norm).length = ds.map norm) := (normTo_all _).trans (norm_norm_map ds)
  have HWL : Hid ((ds.map norm).length = ds.length) := by show _ = _; simp
  have HW2 : Hid (∀ d ∈ ds.map norm, d.length ≤ 201) := len201
  have HNN : Hid (∀ d ∈ ds.map norm, norm d = d) := fun d hd => by obtain ⟨e, _, rfl⟩ := List.mem_map.1 hd; exact norm_norm e
  have HAL : Hid (((nx : Int) :: vars).length ≤ 4097) := by
    show _ ≤ _
    have := (hf.lin (.inr rfl)).1.len; have := (hf.lin (.inr rfl)).1.le16; dsimp only at *; simp; omega
  have HVV : Hid (∀ v ∈ ((nx : Int) :: vars), 0 ≤ v ∧ v.toNat < (ds.map norm).length) := fun v hv => by have := hf.vars v hv; simpa using this
  have hmk := mk_rows ds.length hdl
  have EN : Hid (anyNil ((nx : Int) :: vars) (ds.map norm) = true → onceP (PL.mk 4 rel c (nx : Int) y z coef vars vs) ds = none) := fun h => onceP_nil (p := (PL.mk 4 rel c (nx : Int) y z coef vars vs)) h
  have ENo : Hid (anyNil ((nx : Int) :: vars) (ds.map norm) = false → narrowKs (PL.mk 4 rel c (nx : Int) y z coef vars vs) (ds.map norm) = none → onceP (PL.mk 4 rel c (nx : Int) y z coef vars vs) ds = none) := fun h hk => onceP_no (p := (PL.mk 4 rel c (nx : Int) y z coef vars vs)) h hk
  have EG : Hid (∀ ks, anyNil ((nx : Int) :: vars) (ds.map norm) = false → narrowKs (PL.mk 4 rel c (nx : Int) y z coef vars vs) (ds.map norm) = some ks → anyNil ((nx : Int) :: vars) (keepsL ks (ds.map norm)) = true → onceP (PL.mk 4 rel c (nx : Int) y z coef vars vs) ds = none) := fun ks h hk he => onceP_gone (p := (PL.mk 4 rel c (nx : Int) y z coef vars vs)) h hk he
  have ES : Hid (∀ ks, anyNil ((nx : Int) :: vars) (ds.map norm) = false → narrowKs (PL.mk 4 rel c (nx : Int) y z coef vars vs) (ds.map norm) = some ks → anyNil ((nx : Int) :: vars) (keepsL ks (ds.map norm)) = false → onceP (PL.mk 4 rel c (nx : Int) y z coef vars vs) ds = some (keepsL ks (ds.map norm))) := fun ks h hk he => onceP_some (p := (PL.mk 4 rel c (nx : Int) y z coef vars vs)) h hk he
  clear h0 h1 h2 hd hf hdm hall
  generalize onceP (PL.mk 4 rel c (nx : Int) y z coef vars vs) ds = RES at *
  generalize narrowKs (PL.mk 4 rel c (nx : Int) y z coef vars vs) (ds.map norm) = NK at *
  obtain ⟨was, hwas⟩ : ∃ was, was = ds.map norm := ⟨_, rfl⟩
  have HTA := Lib.hid (normTo_all ds)
  rw [← hwas] at CNR HST2 HNL2 H02 HA2 HWL HW2 HNN HVV EN ENo EG ES HTA
  have HWS := Lib.hid hwas
  clear hwas
  unfold propV
  go_enter Tryz.func12, Tryz.ntmps12
  go_wp2_with (go_at_call 30; (with_reducible refine CO.out.mono ?_); rintro e W1 ⟨rfl, bb⟩; have B1 := Lib.hid (HZ.out.trans (bb.mono HZ.out.size)); clear bb)
  obtain ⟨BO, hBO⟩ : ∃ BO, BO = W1.heap.size := ⟨_, rfl⟩
  rw [← hBO]
  have HSZ := Lib.hid hBO.symm
  clear hBO
  go_loopw [22] (fun s wr => ∃ k : Nat, k ≤ ds.length ∧ s = .int .i64 k ∧ DsOwn wr BO (.slice (some ⟨BO, 0, none⟩) ds.length ds.length) (normTo ds k) ∧ Below W1.heap.size W1 wr) (fun s _ => ds.length - (intOf s).toNat)
  case atStart => exact ⟨0, by omega, rfl, by rw [normTo_zero]; have h := DsOwn.made W1 ds.length (by unfold maxLen; omega) _ rfl; rw [HSZ.out] at h; exact h, (Below.refl _ _).alloc (Nat.le_refl _) _⟩
  case round =>
    obtain ⟨k, hk, rfl, hown, hbel⟩ := hrel
    have HB1 := Lib.hid hbel
    have hle := hbel.size
    have hwl := B1.out.size
    clear hbel
    by_cases hlt : k < ds.length
    · obtain ⟨b, off, ao, cap, rfl, q1, q2, _, hc, hrg⟩ := (HD.out).get k hlt
      have j1 : (k : Int) < ds.length := by omega
      have hbw : Below w.heap.size w wr := B1.out.trans (HB1.out.mono hwl)
      rw [← hbw.cell (p := ⟨b, off + k, none⟩) q2] at hc
      have CN1 := Lib.hid (CN.out ds[k] (List.getElem_mem hlt) _ wr (hrg.below hbw))
      have hst := Lib.hid (HST.out k hlt)
      have hnl := HNL.out k hk
      clear hrg hbw
      generalize ds[k] = d at *
      go_wp2_with (go_at_call 31; (with_reducible refine CN1.out.mono ?_); rintro e W3 ⟨a3, c3, rfl, r3, b3⟩; have HO := Lib.hid (hown.below b3); have B3 := Lib.hid (HB1.out.trans (b3.mono hle)); have R3 := Lib.hid r3; obtain ⟨u3, z2, z3⟩ := HO.out.cellAt k (Nat.lt_of_lt_of_eq hlt hnl.symm); clear b3 r3)
      refine ⟨⟨k + 1, by omega, by go_num, ?_, B3.out.setCell (p := ⟨BO, k, none⟩) (Nat.le_of_eq HSZ.out) _⟩, by simp [intOf]; omega⟩
      rw [hst.out]
      have := HO.out
      rw [← hnl] at this ⊢
      exact DsOwn.set this k (by omega) R3.out
    · obtain rfl : k = ds.length := by omega
      rw [HTA.out] at hown
      clear CN HST HNL HTA hlt hk CO
      obtain ⟨W2, hW2⟩ : ∃ W2 : World, W2 = wr := ⟨_, rfl⟩
      subst hW2
      have BW2 := Lib.hid (B1.out.trans (HB1.out.mono hwl))
      have HWA : Hid (DsAt W2 (.slice (some ⟨BO, 0, none⟩) ds.length ds.length) was) := by
        have := hown.at; exact this
      have hbo : BO < W2.heap.size := by
        have h1 := HSZ.out
        have h2 := HB1.out.size
        rcases Nat.lt_or_ge BO W2.heap.size with h | h
        · exact h
        · exfalso
          obtain ⟨us, _, ow, _⟩ := hown
          have := (ow.lt BO rfl).2
          omega
      have OM := Lib.hid (outAt_made W2 ds.length hdl 22 33 rfl)
      have hwl2 := HWL.out
      clear hown hle hwl HB1
      go_wp2
      go_loopw [38] (fun s wr => ∃ k : Nat, k ≤ ds.length ∧ s = .int .i64 k ∧ Hid (OutAt wr W2.heap.size (W2.heap.size + 1) W2.heap.size (normTo was k)) ∧ Hid (Below W2.heap.size W2 wr)) (fun s _ => ds.length - (intOf s).toNat)
      case atStart => exact ⟨0, by omega, rfl, by rw [H02.out, HWL.out]; exact OM, Lib.hid (((Below.refl _ _).alloc (Nat.le_refl _) _).alloc (by simp) _)⟩
      case round =>
        clear OM
        obtain ⟨k, hk, rfl, HOq, HBq⟩ := hrel
        by_cases hlt : k < ds.length
        · have hkw : k < was.length := by omega
          obtain ⟨b, off, ao, cap, he, q1, q2, hnq, hc, hrg⟩ := HWA.out.get k hkw
          clear hnq
          simp only [Option.some.injEq, Addr.mk.injEq, and_true] at he
          obtain ⟨rfl, rfl⟩ := he
          rw [Nat.zero_add] at hc
          have j1 : (k : Int) < ds.length := by omega
          have hwm := HW2.out was[k] (List.getElem_mem hkw)
          have hnn := HNN.out was[k] (List.getElem_mem hkw)
          have CC : Hid (∀ W, Below W2.heap.size W2 W → Calls Tryz.prog 32 #[.slice ao was[k].length cap] W (RetN was[k] W)) := fun W h => clone_n _ was[k] W (hrg.below h) (by omega)
          have hst := HST2.out k hkw
          rw [hnn] at hst
          have HSTk := Lib.hid hst
          have hnl := HNL2.out k (by omega)
          have hsh := normTo_short was k
          clear hrg hnn hst
          generalize was[k] = d at *
          obtain ⟨u5, v5, _, _, _, hgl, hco, hfo, hrr⟩ := HOq.out.own.get' k (by omega)
          clear hrr
          have hb0 := HOq.out.box.c0
          rw [hnl, hwl2] at hb0
          have HR : Hid (∀ W, Below wr.heap.size wr W → W.cell? ⟨W2.heap.size + 1, 0, none⟩ = some (.slice (some ⟨W2.heap.size, 0, none⟩) ds.length ds.length) ∧ W.cell? ⟨BO, k, none⟩ = some (.slice ao d.length cap) ∧ W.cell? ⟨W2.heap.size, k, none⟩ = some (.slice u5 (normTo was k)[k].length v5) ∧ W.frozen? ⟨W2.heap.size, k, none⟩ = false) := fun W h =>
            ⟨(h.cell (p := ⟨W2.heap.size + 1, 0, none⟩) HOq.out.box.lt).trans hb0, ((HBq.out.trans (h.mono HBq.out.size)).cell (p := ⟨BO, k, none⟩) hbo).trans hc, (h.cell (p := ⟨W2.heap.size, k, none⟩) hgl).trans hco, (h.frozen (p := ⟨W2.heap.size, k, none⟩) hgl).trans hfo⟩
          clear hc hb0 hco hfo
          generalize (normTo was k)[k].length = ol at *
          have HSH := Lib.hid hsh
          have HNLk := Lib.hid hnl
          have HWL2 := Lib.hid hwl2
          clear hsh hnl hwl2
          obtain ⟨y0, y1, y2, y3⟩ := HR.out wr (Below.refl _ _)
          go_wp2
          go_region_with ((go_at_call 32; (with_reducible refine (CC.out _ ?_).mono ?_); (· exact HBq.out.drew); rintro e W6 ⟨a6, c6, rfl, r6, b6, _⟩; have bw6 : Below wr.heap.size wr W6 := Below.trans ((Below.refl _ wr).drew) b6; obtain ⟨y4, y5, y6, y7⟩ := HR.out W6 bw6; have R6 := Lib.hid r6; have B6 := Lib.hid bw6; clear b6 r6 bw6))
          all_goals
            go_wp2
            refine ⟨⟨k + 1, by omega, by go_num, ?_, Lib.hid ((HBq.out.trans (B6.out.mono HBq.out.size)).setCell (p := ⟨W2.heap.size, k, none⟩) (Nat.le_refl _) _)⟩, by simp [intOf]; omega⟩
            have ho6 := HOq.out.below B6.out
            have hnl := HNLk.out
            have hwl2 := HWL2.out
            rw [HSTk.out]
            refine ⟨?_, ?_, ho6.ne, ho6.low, ho6.gl, ?_⟩
            · rw [List.length_set]; exact DsOwn.set ho6.own k (by omega) R6.out
            · rw [List.length_set]; exact ho6.box.far (a := ⟨W2.heap.size, k, none⟩) (by dsimp only; omega) _
            · intro x hx
              rcases List.mem_or_eq_of_mem_set hx with hx | rfl
              · exact HSH.out x hx
              · omega
        · obtain rfl : k = ds.length := by omega
          rw [← hwl2, HA2.out] at HOq
          clear HST2 HNL2 H02 HA2 HW2 HNN hlt hk hmk
          have BWq := Lib.hid (BW2.out.trans (HBq.out.mono BW2.out.size))
          cases ANY : anyNil ((nx : Int) :: vars) was with
          | true =>
            have HRES := Lib.hid (EN.out ANY)
            clear EN ENo EG ES CNR
            go_wp2_with (first
              | (go_at_call 146; (with_reducible refine (CV.out _ BWq.out).mono ?_); rintro e W5 ⟨a5, c5, rfl, i5, b5⟩; have B5 : Hid (Below W2.heap.size W2 W5) := HBq.out.trans (b5.mono HBq.out.size); have O5 := Lib.hid (HOq.out.below b5); have I5 := Lib.hid i5; have CE5 := Lib.hid (containsEmp_any W2.heap.size (W2.heap.size + 1) W2.heap.size was _ ((nx : Int) :: vars) W5 O5.out I5.out HAL.out HVV.out); rw [empty_any, ANY] at CE5; clear b5 i5)
              | (go_at_call 34; (with_reducible refine CE5.out.mono ?_); rintro e w' ⟨rfl, rfl⟩))
            go_ret2
            exact ⟨BW2.out.trans (B5.out.mono BW2.out.size), .inr ⟨HRES.out, rfl⟩⟩
          | false =>
            have EN1 := Lib.hid (ENo.out ANY)
            have EG1 := Lib.hid (fun ks => EG.out ks ANY)
            have ES1 := Lib.hid (fun ks => ES.out ks ANY)
            clear EN ENo EG ES
            have CN5 : Hid (∀ W5, Below W2.heap.size W2 W5 → OutAt W5 W2.heap.size (W2.heap.size + 1) W2.heap.size was → Calls Tryz.prog 145 #[.agg #[.int .i64 nx, .slice a0 coef.length c0, .slice a1 vars.length c1, .int .i64 rel, .int .i64 c], .slice (some ⟨BO, 0, none⟩) ds.length ds.length, .func (.func 35) #[] #[.pointer (some ⟨W2.heap.size + 1, 0, none⟩)]] W5 (NarR NK W2.heap.size (W2.heap.size + 1) W2.heap.size was W5)) := fun W5 hb ho => CNR.out W2 W5 _ _ _ BW2.out HWA.out hb ho
            cases NK with
            | none =>
              have HRES := Lib.hid (EN1.out rfl)
              have CN6 : Hid (∀ W5, Below W2.heap.size W2 W5 → OutAt W5 W2.heap.size (W2.heap.size + 1) W2.heap.size was → Calls Tryz.prog 145 #[.agg #[.int .i64 nx, .slice a0 coef.length c0, .slice a1 vars.length c1, .int .i64 rel, .int .i64 c], .slice (some ⟨BO, 0, none⟩) ds.length ds.length, .func (.func 35) #[] #[.pointer (some ⟨W2.heap.size + 1, 0, none⟩)]] W5 fun e W' => e = .returned (.bool false) ∧ Below W2.heap.size W5 W') := fun W5 hb ho =>
                (CN5.out W5 hb ho).mono fun e W' h => by
                  obtain ⟨hb1, _, ⟨ks, hk, _⟩ | ⟨_, he⟩⟩ := h
                  · cases hk
                  · exact ⟨he, hb1⟩
              clear CN5 CNR EN1 EG1 ES1
              go_wp2_with (first
                | (go_at_call 146; (with_reducible refine (CV.out _ BWq.out).mono ?_); rintro e W5 ⟨a5, c5, rfl, i5, b5⟩; have B5 : Hid (Below W2.heap.size W2 W5) := HBq.out.trans (b5.mono HBq.out.size); have O5 := Lib.hid (HOq.out.below b5); have I5 := Lib.hid i5; have CE5 := Lib.hid (containsEmp_any W2.heap.size (W2.heap.size + 1) W2.heap.size was _ ((nx : Int) :: vars) W5 O5.out I5.out HAL.out HVV.out); rw [empty_any, ANY] at CE5; clear b5 i5)
                | (go_at_call 34; (with_reducible refine CE5.out.mono ?_); rintro e w' ⟨rfl, rfl⟩)
                | (go_at_call 145; (with_reducible refine (CN6.out _ B5.out O5.out).mono ?_); rintro e W7 ⟨rfl, b7⟩))
              go_ret2
              exact ⟨BW2.out.trans ((B5.out.trans b7).mono BW2.out.size), .inr ⟨HRES.out, rfl⟩⟩
            | some ks =>
              have CN6 : Hid (∀ W5, Below W2.heap.size W2 W5 → OutAt W5 W2.heap.size (W2.heap.size + 1) W2.heap.size was → Calls Tryz.prog 145 #[.agg #[.int .i64 nx, .slice a0 coef.length c0, .slice a1 vars.length c1, .int .i64 rel, .int .i64 c], .slice (some ⟨BO, 0, none⟩) ds.length ds.length, .func (.func 35) #[] #[.pointer (some ⟨W2.heap.size + 1, 0, none⟩)]] W5 fun e W' => e = .returned (.bool true) ∧ Below W2.heap.size W5 W' ∧ Stay W5 W' W2.heap.size ∧ OutAt W' W2.heap.size (W2.heap.size + 1) W2.heap.size (keepsL ks was)) := fun W5 hb ho =>
                (CN5.out W5 hb ho).mono fun e W' h => by
                  obtain ⟨hb1, hs1, ⟨ks', hk, he, ho'⟩ | ⟨hk, _⟩⟩ := h
                  · injection hk with hk; subst hk; exact ⟨he, hb1, hs1, ho'⟩
                  · cases hk
              have EG2 := Lib.hid (EG1.out ks rfl)
              have ES2 := Lib.hid (ES1.out ks rfl)
              have HKL : Hid ((keepsL ks was).length = was.length) := keepsL_len ks was
              clear CN5 CNR EN1 EG1 ES1
              generalize keepsL ks was = fin at *
              have HV2 : Hid (∀ v ∈ ((nx : Int) :: vars), 0 ≤ v ∧ v.toNat < fin.length) := fun v hv => by rw [HKL.out]; exact HVV.out v hv
              cases ANY2 : anyNil ((nx : Int) :: vars) fin with
              | true =>
                have HRES := Lib.hid (EG2.out ANY2)
                clear EG2 ES2
                go_wp2_with (first
                  | (go_at_call 146; (with_reducible refine (CV.out _ BWq.out).mono ?_); rintro e W5 ⟨a5, c5, rfl, i5, b5⟩; have B5 : Hid (Below W2.heap.size W2 W5) := HBq.out.trans (b5.mono HBq.out.size); have O5 := Lib.hid (HOq.out.below b5); have I5 := Lib.hid i5; have CE5 := Lib.hid (containsEmp_any W2.heap.size (W2.heap.size + 1) W2.heap.size was _ ((nx : Int) :: vars) W5 O5.out I5.out HAL.out HVV.out); rw [empty_any, ANY] at CE5; clear b5 i5)
                  | (go_at_call 34; (with_reducible refine CE5.out.mono ?_); rintro e w' ⟨rfl, rfl⟩)
                  | (go_at_call 145; (with_reducible refine (CN6.out _ B5.out O5.out).mono ?_); rintro e W7 ⟨rfl, b7, s7, o7⟩; have CE7 := Lib.hid (containsEmp_any W2.heap.size (W2.heap.size + 1) W2.heap.size fin _ ((nx : Int) :: vars) W7 o7 (I5.out.stayO O5.out s7) HAL.out HV2.out); rw [empty_any, ANY2] at CE7; clear CE5)
                  | (go_at_call 34; (with_reducible refine CE7.out.mono ?_); rintro e w' ⟨rfl, rfl⟩))
                go_ret2
                exact ⟨BW2.out.trans ((B5.out.trans b7).mono BW2.out.size), .inr ⟨HRES.out, rfl⟩⟩
              | false =>
                have HRES := Lib.hid (ES2.out ANY2)
                clear EG2 ES2
                go_wp2_with (first
                  | (go_at_call 146; (with_reducible refine (CV.out _ BWq.out).mono ?_); rintro e W5 ⟨a5, c5, rfl, i5, b5⟩; have B5 : Hid (Below W2.heap.size W2 W5) := HBq.out.trans (b5.mono HBq.out.size); have O5 := Lib.hid (HOq.out.below b5); have I5 := Lib.hid i5; have CE5 := Lib.hid (containsEmp_any W2.heap.size (W2.heap.size + 1) W2.heap.size was _ ((nx : Int) :: vars) W5 O5.out I5.out HAL.out HVV.out); rw [empty_any, ANY] at CE5; clear b5 i5)
                  | (go_at_call 34; (with_reducible refine CE5.out.mono ?_); rintro e w' ⟨rfl, rfl⟩)
                  | (go_at_call 145; (with_reducible refine (CN6.out _ B5.out O5.out).mono ?_); rintro e W7 ⟨rfl, b7, s7, o7⟩; have CE7 := Lib.hid (containsEmp_any W2.heap.size (W2.heap.size + 1) W2.heap.size fin _ ((nx : Int) :: vars) W7 o7 (I5.out.stayO O5.out s7) HAL.out HV2.out); rw [empty_any, ANY2] at CE7; have hbx7 := o7.box.c0; clear CE5)
                  | (go_at_call 34; (with_reducible refine CE7.out.mono ?_); rintro e w' ⟨rfl, rfl⟩))
                go_ret2
                exact ⟨BW2.out.trans ((B5.out.trans b7).mono BW2.out.size), .inl ⟨fin, _, _, HRES.out, rfl, o7.at⟩⟩
end Go.Proofs.YtajooiainglpmaaGreat
namespace Go.Proofs.YtajooiainglpmaaGreat
open Go.RowKit

theorem once_all (p : PL) (va vb vv vds : Value) (ds : Ds) (w : World) (h0 : IsAt w va p.coef) (h1 : IsAt w vb p.vars) (h2 : IsAt w vv p.vs) (hd : DsAt w vds ds)
    (hf : p.Fine ds) (hdl : ds.length ≤ 4096) (hdm : ∀ d ∈ ds, d.length ≤ 4096) :
    Calls Tryz.prog 12 #[propV p.kind va vb p.rel p.c p.x p.y p.z vv, vds] w (RetO (onceP p ds) w) := by
  obtain ⟨kind, rel, c, x, y, z, coef, vars, vs⟩ := p
  dsimp only at h0 h1 h2 ⊢
  have hk := hf.kind
  dsimp only at hk
  rcases hk with rfl | rfl | rfl | rfl
  · exact once1_c va vb vv vds rel c x y z coef vars vs ds w h0 h1 h2 hd hf hdl hdm
  · obtain ⟨nx, rfl⟩ := Int.eq_ofNat_of_zero_le (hf.vars x (by simp [PL.all, allL])).1
    obtain ⟨ny, rfl⟩ := Int.eq_ofNat_of_zero_le (hf.vars y (by simp [PL.all, allL])).1
    obtain ⟨nz, rfl⟩ := Int.eq_ofNat_of_zero_le (hf.vars z (by simp [PL.all, allL])).1
    exact once2_c va vb vv vds rel c nx ny nz coef vars vs ds w h0 h1 h2 hd hf hdl hdm
  · exact once3_c va vb vv vds rel c x y z coef vars vs ds w h0 h1 h2 hd hf hdl hdm
  · obtain ⟨nx, rfl⟩ := Int.eq_ofNat_of_zero_le (hf.vars x (by simp [PL.all, allL])).1
    exact once4_c va vb vv vds rel c nx y z coef vars vs ds w h0 h1 h2 hd hf hdl hdm

theorem chk_fine (p : PL) (ds : Ds) (h : relChk p.kind p.rel p.c p.x p.y p.z p.coef p.vars p.vs ds.length = 0) (hd : ∀ d ∈ ds, d.length ≤ 4096) : p.Fine ds := by
  obtain ⟨kind, rel, c, x, y, z, coef, vars, vs⟩ := p
  dsimp only at h
  unfold relChk at h
  split at h
  · cases h
  · rename_i h1
    split at h
    · rename_i h2; exact absurd h h2.2
    · rename_i h2
      split at h
      · cases h
      · rename_i h3
        split at h
        · cases h
        · rename_i h4
          refine ⟨by dsimp only; omega, fun hk => ?_, fun hk => ?_, fun v hv => ?_⟩
          · dsimp only at hk ⊢
            have h5 : linChk coef vars rel c ds.length = 0 := by
              by_cases h6 : linChk coef vars rel c ds.length = 0
              · exact h6
              · exact absurd ⟨hk, h6⟩ h2
            exact chk_good h5 hd
          · dsimp only at hk ⊢
            have : ¬ (kind = 3 ∧ 64 < vs.length) := h3
            omega
          · simp only [Bool.not_eq_true, List.any_eq_false] at h4
            have := h4 v hv
            simp [outB] at this
            omega
end Go.Proofs.YtajooiainglpmaaGreat
namespace Go.Proofs.YtajooiainglpmaaGreat

theorem glue_ok {out : List Rg} {v : Int} (ho : Normal out) (hv : -200 ≤ v ∧ v ≤ 200) (hs : ∀ q ∈ out, q.2 < v) : Normal (glue out (v, v)) ∧ ∀ q ∈ glue out (v, v), q.2 ≤ v := by
  rcases List.eq_nil_or_concat out with rfl | ⟨M, p, rfl⟩
  · rw [glue_nil]
    exact ⟨⟨hv.1, Int.le_refl _, hv.2, trivial⟩, fun q hq => by simp at hq; subst hq; exact Int.le_refl _⟩
  · rw [List.concat_eq_append] at ho hs ⊢
    obtain ⟨n1, n2, n3, n4, n5⟩ := NormFrom.snoc.1 ho
    have hp := hs p (by simp)
    rw [glue_snoc]
    dsimp only
    split
    · refine ⟨NormFrom.snoc.2 ⟨n1, n2, by dsimp only; omega, by dsimp only; omega, n5⟩, fun q hq => ?_⟩
      rcases List.mem_append.1 hq with h | h
      · have := hs q (by simp [h]); omega
      · simp at h; subst h; exact Int.le_refl _
    · rename_i hne
      refine ⟨NormFrom.snoc.2 ⟨ho, by dsimp only; omega, Int.le_refl _, hv.2, fun q hq => ?_⟩, fun q hq => ?_⟩
      · dsimp only
        rcases List.mem_append.1 hq with h | h
        · have := n5 q h; omega
        · simp at h; subst h; omega
      · rcases List.mem_append.1 hq with h | h
        · have := hs q h; omega
        · simp at h; subst h; exact Int.le_refl _
/-- single integers that rise -/
def Rises (m : Int) : List Rg → Prop
  | [] => True
  | r :: G => r.1 = r.2 ∧ m < r.1 ∧ r.1 ≤ 200 ∧ Rises r.1 G
theorem Rises.mono {m m' : Int} (h : m' ≤ m) : ∀ {G : List Rg}, Rises m G → Rises m' G
  | [], _ => trivial
  | _ :: _, ⟨a, b, c, d⟩ => ⟨a, by omega, c, d⟩
theorem fold_ok : ∀ (G out : List Rg) (m : Int), -201 ≤ m → Normal out → (∀ q ∈ out, q.2 ≤ m) → Rises m G → Normal (G.foldl glue out)
  | [], _, _, _, ho, _, _ => ho
  | (a, b) :: G, out, m, hm, ho, hs, ⟨h1, h2, h3, h4⟩ => by
    dsimp only at h1 h2 h3 h4
    subst h1
    obtain ⟨g1, g2⟩ := glue_ok (v := a) ho ⟨by omega, h3⟩ (fun q hq => by have := hs q hq; omega)
    exact fold_ok G _ a (by omega) g1 g2 h4
theorem rises_append : ∀ {A B : List Rg} {m k : Int}, Rises m A → (∀ r ∈ A, r.1 ≤ k) → m ≤ k → Rises k B → Rises m (A ++ B)
  | [], _, _, _, _, _, h, hB => hB.mono h
  | r :: _, _, _, _, ⟨a, b, c, d⟩, hk, _, hB => ⟨a, b, c, rises_append d (fun q hq => hk q (List.mem_cons_of_mem _ hq)) (hk r (List.mem_cons_self ..)) hB⟩
theorem runG_le (p : Int → Bool) (lo : Int) : ∀ (n : Nat), ∀ r ∈ runG p lo n, r.1 < lo + n
  | 0, r, h => by simp [runG] at h
  | n + 1, r, h => by
    rw [runG] at h
    rcases List.mem_append.1 h with h | h
    · have := runG_le p lo n r h; omega
    · split at h
      · simp at h; subst h; dsimp only; omega
      · cases h
theorem runG_rises (p : Int → Bool) (lo m : Int) (hm : m < lo) : ∀ (n : Nat), lo + n ≤ 201 → Rises m (runG p lo n)
  | 0, _ => trivial
  | n + 1, h => by
    rw [runG]
    refine rises_append (k := lo + n - 1) (runG_rises p lo m hm n (by omega)) (fun r hr => by have := runG_le p lo n r hr; omega) (by omega) ?_
    split
    · exact ⟨rfl, by dsimp only; omega, by dsimp only; omega, trivial⟩
    · trivial
theorem goneL_rises (p : Int → Bool) : ∀ (D : List Rg) (lo : Int), NormFrom lo D → Rises (lo - 1) (goneL p D)
  | [], _, _ => trivial
  | r :: D, lo, ⟨h1, h2, h3, h4⟩ => by
    have e : goneL p (r :: D) = runG p r.1 (r.2 + 1 - r.1).toNat ++ goneL p D := by unfold goneL; rw [List.flatMap_cons]
    rw [e]
    refine rises_append (k := r.2) (runG_rises p r.1 (lo - 1) (by omega) _ (by omega)) (fun q hq => by have := runG_le p r.1 _ q hq; omega) (by omega) ?_
    exact (goneL_rises p D _ h4).mono (by omega)
/-- WHAT STAYS OF A SET, integer by integer, joined, is its normal list -/
theorem cut_glue (D : List Rg) (hD : Normal D) (p : Int → Bool) : glueL (goneL p D) = canon fun v => memL D v && p v := by
  have hN : Normal (glueL (goneL p D)) := fold_ok (goneL p D) [] (-201) (Int.le_refl _) trivial (fun q hq => by cases hq) ((goneL_rises p D (-200) hD).mono (by omega))
  refine normal_unique hN (canon_normal _) (fun x => ?_)
  rw [(glueL_mem (goneL p D) (goneL_single p D)).1 x, goneL_mem, canon_mem]
  cases hm : memL D x with
  | false => simp
  | true => obtain ⟨h1, h2⟩ := memL_bounds hD hm; simp [h1, h2]
theorem hasW_at {v lo hi a b : Int} (k : Nat) (hk : k < (hi + 1 - lo).toNat) (h1 : a ≤ v * (lo + k)) (h2 : v * (lo + k) ≤ b) : hasW v lo hi a b = true := by
  unfold hasW
  rw [List.any_eq_true]
  exact ⟨k, List.mem_range.2 hk, by simp [h1, h2]⟩
theorem hasW_none {v lo hi a b : Int} (h : ∀ k : Nat, k < (hi + 1 - lo).toNat → ¬ (a ≤ v * (lo + k) ∧ v * (lo + k) ≤ b)) : hasW v lo hi a b = false := by
  unfold hasW
  rw [List.any_eq_false]
  intro k hk
  have := h k (List.mem_range.1 hk)
  simpa using this
theorem diffOk_none {was : Ds} {l : List Int} {i : Nat} {v : Int} (k : Nat) (hk : k < l.length) (h1 : k ≠ i) (h2 : aloneL (domOf was (l.getD k 0)) v = true) : diffOk was l i v = false := by
  unfold diffOk
  rw [List.all_eq_false]
  exact ⟨k, List.mem_range.2 hk, by rw [h2]; simp [h1]⟩
theorem diffOk_all {was : Ds} {l : List Int} {i : Nat} {v : Int} (h : ∀ k, k < l.length → k ≠ i → aloneL (domOf was (l.getD k 0)) v = false) : diffOk was l i v = true := by
  unfold diffOk
  rw [List.all_eq_true]
  intro k hk
  by_cases e : k = i
  · simp [e]
  · rw [h k (List.mem_range.1 hk) e]; simp
theorem loD_cons {r : Rg} {t : List Rg} (h : Normal (r :: t)) : loD (r :: t) = r.1 := by unfold loD; rw [norm_of_normal h]; rfl
theorem hiD_snoc {M : List Rg} {p : Rg} (h : Normal (M ++ [p])) : hiD (M ++ [p]) = p.2 := by
  unfold hiD
  rw [norm_of_normal h]
  cases M with
  | nil => rfl
  | cons r M =>
    show (((r :: M) ++ [p]).getLast (by simp)).2 = p.2
    rw [List.getLast_concat]
theorem lohi_bnd {d : List Rg} : -200 ≤ loD d ∧ loD d ≤ 200 ∧ -200 ≤ hiD d ∧ hiD d ≤ 200 := ends_bnd d
end Go.Proofs.YtajooiainglpmaaGreat
