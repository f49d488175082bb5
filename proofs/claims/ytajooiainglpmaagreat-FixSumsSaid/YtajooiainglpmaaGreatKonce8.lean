/-
  rel.Once of a constraint of kind 4 (reified), walked.
  rel.Once of any constraint that Check has let by.
  THE QUEUE OF CONSTRAINTS IN MEMORY; its small methods, walked.
-/
import Derived.Test.YtajooiainglpmaaGreatKonce6
import Derived.Test.YtajooiainglpmaaGreatKonce7
import Derived.Test.YtajooiainglpmaaGreatKrel2
import Derived.Test.YtajooiainglpmaaGreatKlib1
import Derived.Test.YtajooiainglpmaaGreatKonce5
import Derived.Test.YtajooiainglpmaaGreatKlin6
namespace Go.Proofs.YtajooiainglpmaaGreat
open Go.RowKit

set_option maxRecDepth 100000 in
set_option maxHeartbeats 3200000 in
theorem once4_c (va vb vv vds : Value) (rel c : Int) (nx : Nat) (y z : Int) (coef vars vs : List Int) (ds : Ds) (w : World) (h0 : IsAt w va coef) (h1 : IsAt w vb vars) (h2 : IsAt w vv vs) (hd : DsAt w vds ds)
    (hf : (PL.mk 4 rel c (nx : Int) y z coef vars vs).Fine ds) (hdl : ds.length ≤ 4096) (hdm : ∀ d ∈ ds, d.length ≤ 4096) :
    Calls Tryz.prog 12 #[propV 4 va vb rel c (nx : Int) y z vv, vds] w (RetOW (onceP (PL.mk 4 rel c (nx : Int) y z coef vars vs) ds) w) := by
  obtain ⟨a0, c0, rfl, _⟩ := IsAt.shape h0
  obtain ⟨a1, c1, rfl, _⟩ := IsAt.shape h1
  obtain ⟨a2, c2, rfl, _⟩ := IsAt.shape h2
  obtain ⟨ad, cd, rfl, _⟩ := hd.shape
  have hall : (PL.mk 4 rel c (nx : Int) y z coef vars vs).all = ((nx : Int) :: vars) := rfl
  have HZ : Hid (Below w.heap.size w (w.alloc (.cells #[.int .i64 4, .slice a0 coef.length c0, .slice a1 vars.length c1, .int .i64 rel, .int .i64 c, .int .i64 nx, .int .i64 y, .int .i64 z, .slice a2 vs.length c2] 30))) := (Below.refl _ _).alloc (Nat.le_refl _) _
  have CO : Hid (Calls Tryz.prog 30 #[.agg #[.int .i64 4, .slice a0 coef.length c0, .slice a1 vars.length c1, .int .i64 rel, .int .i64 c, .int .i64 nx, .int .i64 y, .int .i64 z, .slice a2 vs.length c2]] (w.alloc (.cells #[.int .i64 4, .slice a0 coef.length c0, .slice a1 vars.length c1, .int .i64 rel, .int .i64 c, .int .i64 nx, .int .i64 y, .int .i64 z, .slice a2 vs.length c2] 30)) fun e w' => e = .returned (.iface 77 (.agg #[.int .i64 nx, .slice a0 coef.length c0, .slice a1 vars.length c1, .int .i64 rel, .int .i64 c])) ∧ Below (w.alloc (.cells #[.int .i64 4, .slice a0 coef.length c0, .slice a1 vars.length c1, .int .i64 rel, .int .i64 c, .int .i64 nx, .int .i64 y, .int .i64 z, .slice a2 vs.length c2] 30)).heap.size (w.alloc (.cells #[.int .i64 4, .slice a0 coef.length c0, .slice a1 vars.length c1, .int .i64 rel, .int .i64 c, .int .i64 nx, .int .i64 y, .int .i64 z, .slice a2 vs.length c2] 30)) w') := of_c 4 a0 a1 a2 coef.length vars.length vs.length c0 c1 c2 rel c (nx : Int) y z _
  have CV : Hid (∀ W, Below w.heap.size w W → Calls Tryz.prog 146 #[.agg #[.int .i64 nx, .slice a0 coef.length c0, .slice a1 vars.length c1, .int .i64 rel, .int .i64 c]] W fun e w' => ∃ ao cap, e = .returned (.slice ao (vars.length + 1) cap) ∧ IsAt w' (.slice ao (vars.length + 1) cap) ((nx : Int) :: vars) ∧ Below W.heap.size W w') := fun W h => varsReif_c nx rel c a0 coef.length c0 _ vars W (h1.below h) (by have := (hf.lin (.inr rfl)).1.len; have := (hf.lin (.inr rfl)).1.le16; dsimp only at *; omega)
  have CNR : Hid (∀ W2 W5 vw bo g, Below w.heap.size w W2 → DsAt W2 vw (ds.map norm) → Below W2.heap.size W2 W5 → OutAt W5 W2.heap.size bo g (ds.map norm) → Calls Tryz.prog 145 #[.agg #[.int .i64 nx, .slice a0 coef.length c0, .slice a1 vars.length c1, .int .i64 rel, .int .i64 c], vw, .func (.func 35) #[] #[.pointer (some ⟨bo, 0, none⟩)]] W5 (NarR (narrowKs (PL.mk 4 rel c (nx : Int) y z coef vars vs) (ds.map norm)) W2.heap.size bo g (ds.map norm) W5)) := fun W2 W5 vw bo g hW2 hvw hb5 ho =>
    narReif_c _ _ _ nx rel c coef vars (ds.map norm) (ds.map norm) W2 W5 W2.heap.size bo g rfl hb5 (h0.below hW2) (h1.below hW2) hvw (good_norm (hf.lin (.inr rfl)).1) (hf.lin (.inr rfl)).2.1 (hf.lin (.inr rfl)).2.2.1 (hf.lin (.inr rfl)).2.2.2.1 (by have := (hf.vars nx (by rw [hall]; simp)).2; simpa using this) (by simpa using hdl) (allN_norm ds) ho rfl
  have CN : Hid (∀ d, d ∈ ds → ∀ vd W, RgAt W vd d → Calls Tryz.prog 31 #[vd] W (RetR (norm d) W)) := fun d hm vd W hr => norm_c vd d W hr (hdm d hm)
  have HD := Lib.hid hd
  have HST := Lib.hid (normTo_step ds)
  have HNL := Lib.hid (normTo_len ds)
  have HST2 := Lib.hid (normTo_step (ds.map norm))
  have HNL2 := Lib.hid (normTo_len (ds.map norm))
  have H02 := Lib.hid (normTo_zero (ds.map norm))
  have HA2 : Hid (normTo (ds.map norm) (ds.map norm).length = ds.map norm) := (normTo_all _).trans (norm_norm_map ds)
  have HWL : Hid ((ds.map norm).length = ds.length) := by show _ = _; simp
  have HW2 : Hid (∀ d ∈ ds.map norm, d.length ≤ 201) := len201
  have HNN : Hid (∀ d ∈ ds.map norm, norm d = d) := fun d hd => by obtain ⟨e, _, rfl⟩ := List.mem_map.1 hd; exact norm_norm e
  have HAL : Hid (((nx : Int) :: vars).length ≤ 4097) := by
    show _ ≤ _
    have := (hf.lin (.inr rfl)).1.len; have := (hf.lin (.inr rfl)).1.le16; dsimp only at *; simp; omega
  have HVV : Hid (∀ v ∈ ((nx : Int) :: vars), 0 ≤ v ∧ v.toNat < (ds.map norm).length) := fun v hv => by have := hf.vars v hv; simpa using this
  have hmk := mk_rows ds.length hdl
  have EN : Hid (anyNil ((nx : Int) :: vars) (ds.map norm) = true → onceP (PL.mk 4 rel c (nx : Int) y z coef vars vs) ds = none) := fun h => onceP_nil (p := (PL.mk 4 rel c (nx : Int) y z coef vars vs)) h
  have ENo : Hid (anyNil ((nx : Int) :: vars) (ds.map norm) = false → narrowKs (PL.mk 4 rel c (nx : Int) y z coef vars vs) (ds.map norm) = none → onceP (PL.mk 4 rel c (nx : Int) y z coef vars vs) ds = none) := fun h hk => onceP_no (p := (PL.mk 4 rel c (nx : Int) y z coef vars vs)) h hk
  have EG : Hid (∀ ks, anyNil ((nx : Int) :: vars) (ds.map norm) = false → narrowKs (PL.mk 4 rel c (nx : Int) y z coef vars vs) (ds.map norm) = some ks → anyNil ((nx : Int) :: vars) (keepsL ks (ds.map norm)) = true → onceP (PL.mk 4 rel c (nx : Int) y z coef vars vs) ds = none) := fun ks h hk he => onceP_gone (p := (PL.mk 4 rel c (nx : Int) y z coef vars vs)) h hk he
  have ES : Hid (∀ ks, anyNil ((nx : Int) :: vars) (ds.map norm) = false → narrowKs (PL.mk 4 rel c (nx : Int) y z coef vars vs) (ds.map norm) = some ks → anyNil ((nx : Int) :: vars) (keepsL ks (ds.map norm)) = false → onceP (PL.mk 4 rel c (nx : Int) y z coef vars vs) ds = some (keepsL ks (ds.map norm))) := fun ks h hk he => onceP_some (p := (PL.mk 4 rel c (nx : Int) y z coef vars vs)) h hk he
  clear h0 h1 h2 hd hf hdm hall
  generalize onceP (PL.mk 4 rel c (nx : Int) y z coef vars vs) ds = RES at *
  generalize narrowKs (PL.mk 4 rel c (nx : Int) y z coef vars vs) (ds.map norm) = NK at *
  obtain ⟨was, hwas⟩ : ∃ was, was = ds.map norm := ⟨_, rfl⟩
  have HTA := Lib.hid (normTo_all ds)
  rw [← hwas] at CNR HST2 HNL2 H02 HA2 HWL HW2 HNN HVV EN ENo EG ES HTA
  have HWS := Lib.hid hwas
  clear hwas
  unfold propV
  go_enter Tryz.func12, Tryz.ntmps12
  go_wp2_with (go_at_call 30; (with_reducible refine CO.out.mono ?_); rintro e W1 ⟨rfl, bb⟩; have B1 := Lib.hid (HZ.out.trans (bb.mono HZ.out.size)); clear bb)
  obtain ⟨BO, hBO⟩ : ∃ BO, BO = W1.heap.size := ⟨_, rfl⟩
  rw [← hBO]
  have HSZ := Lib.hid hBO.symm
  clear hBO
  go_loopw [22] (fun s wr => ∃ k : Nat, k ≤ ds.length ∧ s = .int .i64 k ∧ DsOwn wr BO (.slice (some ⟨BO, 0, none⟩) ds.length ds.length) (normTo ds k) ∧ Below W1.heap.size W1 wr) (fun s _ => ds.length - (intOf s).toNat)
  case atStart => exact ⟨0, by omega, rfl, by rw [normTo_zero]; have h := DsOwn.made W1 ds.length (by unfold maxLen; omega) _ rfl; rw [HSZ.out] at h; exact h, (Below.refl _ _).alloc (Nat.le_refl _) _⟩
  case round =>
    obtain ⟨k, hk, rfl, hown, hbel⟩ := hrel
    have HB1 := Lib.hid hbel
    have hle := hbel.size
    have hwl := B1.out.size
    clear hbel
    by_cases hlt : k < ds.length
    · obtain ⟨b, off, ao, cap, rfl, q1, q2, _, hc, hrg⟩ := (HD.out).get k hlt
      have j1 : (k : Int) < ds.length := by omega
      have hbw : Below w.heap.size w wr := B1.out.trans (HB1.out.mono hwl)
      rw [← hbw.cell (p := ⟨b, off + k, none⟩) q2] at hc
      have CN1 := Lib.hid (CN.out ds[k] (List.getElem_mem hlt) _ wr (hrg.below hbw))
      have hst := Lib.hid (HST.out k hlt)
      have hnl := HNL.out k hk
      clear hrg hbw
      generalize ds[k] = d at *
      go_wp2_with (go_at_call 31; (with_reducible refine CN1.out.mono ?_); rintro e W3 ⟨a3, c3, rfl, r3, b3⟩; have HO := Lib.hid (hown.below b3); have B3 := Lib.hid (HB1.out.trans (b3.mono hle)); have R3 := Lib.hid r3; obtain ⟨u3, z2, z3⟩ := HO.out.cellAt k (Nat.lt_of_lt_of_eq hlt hnl.symm); clear b3 r3)
      refine ⟨⟨k + 1, by omega, by go_num, ?_, B3.out.setCell (p := ⟨BO, k, none⟩) (Nat.le_of_eq HSZ.out) _⟩, by simp [intOf]; omega⟩
      rw [hst.out]
      have := HO.out
      rw [← hnl] at this ⊢
      exact DsOwn.set this k (by omega) R3.out
    · obtain rfl : k = ds.length := by omega
      rw [HTA.out] at hown
      clear CN HST HNL HTA hlt hk CO
      obtain ⟨W2, hW2⟩ : ∃ W2 : World, W2 = wr := ⟨_, rfl⟩
      subst hW2
      have BW2 := Lib.hid (B1.out.trans (HB1.out.mono hwl))
      have HWA : Hid (DsAt W2 (.slice (some ⟨BO, 0, none⟩) ds.length ds.length) was) := by
        have := hown.at; exact this
      have hbo : BO < W2.heap.size := by
        have h1 := HSZ.out
        have h2 := HB1.out.size
        rcases Nat.lt_or_ge BO W2.heap.size with h | h
        · exact h
        · exfalso
          obtain ⟨us, _, ow, _⟩ := hown
          have := (ow.lt BO rfl).2
          omega
      have OM := Lib.hid (outAt_made W2 ds.length hdl 22 33 rfl)
      have hwl2 := HWL.out
      clear hown hle hwl HB1
      go_wp2
      go_loopw [38] (fun s wr => ∃ k : Nat, k ≤ ds.length ∧ s = .int .i64 k ∧ Hid (OutAt wr W2.heap.size (W2.heap.size + 1) W2.heap.size (normTo was k)) ∧ Hid (Below W2.heap.size W2 wr)) (fun s _ => ds.length - (intOf s).toNat)
      case atStart => exact ⟨0, by omega, rfl, by rw [H02.out, HWL.out]; exact OM, Lib.hid (((Below.refl _ _).alloc (Nat.le_refl _) _).alloc (by simp) _)⟩
      case round =>
        clear OM
        obtain ⟨k, hk, rfl, HOq, HBq⟩ := hrel
        by_cases hlt : k < ds.length
        · have hkw : k < was.length := by omega
          obtain ⟨b, off, ao, cap, he, q1, q2, hnq, hc, hrg⟩ := HWA.out.get k hkw
          clear hnq
          simp only [Option.some.injEq, Addr.mk.injEq, and_true] at he
          obtain ⟨rfl, rfl⟩ := he
          rw [Nat.zero_add] at hc
          have j1 : (k : Int) < ds.length := by omega
          have hwm := HW2.out was[k] (List.getElem_mem hkw)
          have hnn := HNN.out was[k] (List.getElem_mem hkw)
          have CC : Hid (∀ W, Below W2.heap.size W2 W → Calls Tryz.prog 32 #[.slice ao was[k].length cap] W (RetN was[k] W)) := fun W h => clone_n _ was[k] W (hrg.below h) (by omega)
          have hst := HST2.out k hkw
          rw [hnn] at hst
          have HSTk := Lib.hid hst
          have hnl := HNL2.out k (by omega)
          have hsh := normTo_short was k
          clear hrg hnn hst
          generalize was[k] = d at *
          obtain ⟨u5, v5, _, _, _, hgl, hco, hfo, hrr⟩ := HOq.out.own.get' k (by omega)
          clear hrr
          have hb0 := HOq.out.box.c0
          rw [hnl, hwl2] at hb0
          have HR : Hid (∀ W, Below wr.heap.size wr W → W.cell? ⟨W2.heap.size + 1, 0, none⟩ = some (.slice (some ⟨W2.heap.size, 0, none⟩) ds.length ds.length) ∧ W.cell? ⟨BO, k, none⟩ = some (.slice ao d.length cap) ∧ W.cell? ⟨W2.heap.size, k, none⟩ = some (.slice u5 (normTo was k)[k].length v5) ∧ W.frozen? ⟨W2.heap.size, k, none⟩ = false) := fun W h =>
            ⟨(h.cell (p := ⟨W2.heap.size + 1, 0, none⟩) HOq.out.box.lt).trans hb0, ((HBq.out.trans (h.mono HBq.out.size)).cell (p := ⟨BO, k, none⟩) hbo).trans hc, (h.cell (p := ⟨W2.heap.size, k, none⟩) hgl).trans hco, (h.frozen (p := ⟨W2.heap.size, k, none⟩) hgl).trans hfo⟩
          clear hc hb0 hco hfo
          generalize (normTo was k)[k].length = ol at *
          have HSH := Lib.hid hsh
          have HNLk := Lib.hid hnl
          have HWL2 := Lib.hid hwl2
          clear hsh hnl hwl2
          obtain ⟨y0, y1, y2, y3⟩ := HR.out wr (Below.refl _ _)
          go_wp2
          go_region_with ((go_at_call 32; (with_reducible refine (CC.out _ ?_).mono ?_); (· exact HBq.out.drew); rintro e W6 ⟨a6, c6, rfl, r6, b6, n6⟩; have N6 := Lib.hid n6; clear n6; have bw6 : Below wr.heap.size wr W6 := Below.trans ((Below.refl _ wr).drew) b6; obtain ⟨y4, y5, y6, y7⟩ := HR.out W6 bw6; have R6 := Lib.hid r6; have B6 := Lib.hid bw6; clear b6 r6 bw6))
          all_goals
            go_wp2
            refine ⟨⟨k + 1, by omega, by go_num, ?_, Lib.hid ((HBq.out.trans (B6.out.mono HBq.out.size)).setCell (p := ⟨W2.heap.size, k, none⟩) (Nat.le_refl _) _)⟩, by simp [intOf]; omega⟩
            have ho6 := HOq.out.below B6.out
            have hnl := HNLk.out
            have hwl2 := HWL2.out
            rw [HSTk.out]
            refine ⟨?_, ?_, ho6.ne, ho6.low, ho6.gl, ?_, ?_⟩
            · rw [List.length_set]; exact DsOwn.set ho6.own k (by omega) R6.out
            · rw [List.length_set]; exact ho6.box.far (a := ⟨W2.heap.size, k, none⟩) (by dsimp only; omega) _
            · intro x hx
              rcases List.mem_or_eq_of_mem_set hx with hx | rfl
              · exact HSH.out x hx
              · omega
            · intro j hj u hu b e
              by_cases hjn : j = k
              · subst hjn
                rw [World.cell?_setCell_same _ _ _ y6] at hu
                injection hu with hu
                subst hu
                exact Nat.le_trans HBq.out.size (N6.out b e)
              · rw [World.cell?_setCell_other _ _ _ _ (fun he => hjn (by injection he with _ h2 _; exact h2.symm))] at hu
                rw [List.length_set] at hj
                exact ho6.new j hj u hu b e
        · obtain rfl : k = ds.length := by omega
          rw [← hwl2, HA2.out] at HOq
          clear HST2 HNL2 H02 HA2 HW2 HNN hlt hk hmk
          have BWq := Lib.hid (BW2.out.trans (HBq.out.mono BW2.out.size))
          cases ANY : anyNil ((nx : Int) :: vars) was with
          | true =>
            have HRES := Lib.hid (EN.out ANY)
            clear EN ENo EG ES CNR
            go_wp2_with (first
              | (go_at_call 146; (with_reducible refine (CV.out _ BWq.out).mono ?_); rintro e W5 ⟨a5, c5, rfl, i5, b5⟩; have B5 : Hid (Below W2.heap.size W2 W5) := HBq.out.trans (b5.mono HBq.out.size); have O5 := Lib.hid (HOq.out.below b5); have I5 := Lib.hid i5; have CE5 := Lib.hid (containsEmp_any W2.heap.size (W2.heap.size + 1) W2.heap.size was _ ((nx : Int) :: vars) W5 O5.out I5.out HAL.out HVV.out); rw [empty_any, ANY] at CE5; clear b5 i5)
              | (go_at_call 34; (with_reducible refine CE5.out.mono ?_); rintro e w' ⟨rfl, rfl⟩))
            go_ret2
            exact ⟨BW2.out.trans (B5.out.mono BW2.out.size), .inr ⟨HRES.out, rfl⟩⟩
          | false =>
            have EN1 := Lib.hid (ENo.out ANY)
            have EG1 := Lib.hid (fun ks => EG.out ks ANY)
            have ES1 := Lib.hid (fun ks => ES.out ks ANY)
            clear EN ENo EG ES
            have CN5 : Hid (∀ W5, Below W2.heap.size W2 W5 → OutAt W5 W2.heap.size (W2.heap.size + 1) W2.heap.size was → Calls Tryz.prog 145 #[.agg #[.int .i64 nx, .slice a0 coef.length c0, .slice a1 vars.length c1, .int .i64 rel, .int .i64 c], .slice (some ⟨BO, 0, none⟩) ds.length ds.length, .func (.func 35) #[] #[.pointer (some ⟨W2.heap.size + 1, 0, none⟩)]] W5 (NarR NK W2.heap.size (W2.heap.size + 1) W2.heap.size was W5)) := fun W5 hb ho => CNR.out W2 W5 _ _ _ BW2.out HWA.out hb ho
            cases NK with
            | none =>
              have HRES := Lib.hid (EN1.out rfl)
              have CN6 : Hid (∀ W5, Below W2.heap.size W2 W5 → OutAt W5 W2.heap.size (W2.heap.size + 1) W2.heap.size was → Calls Tryz.prog 145 #[.agg #[.int .i64 nx, .slice a0 coef.length c0, .slice a1 vars.length c1, .int .i64 rel, .int .i64 c], .slice (some ⟨BO, 0, none⟩) ds.length ds.length, .func (.func 35) #[] #[.pointer (some ⟨W2.heap.size + 1, 0, none⟩)]] W5 fun e W' => e = .returned (.bool false) ∧ Below W2.heap.size W5 W') := fun W5 hb ho =>
                (CN5.out W5 hb ho).mono fun e W' h => by
                  obtain ⟨hb1, _, ⟨ks, hk, _⟩ | ⟨_, he⟩⟩ := h
                  · cases hk
                  · exact ⟨he, hb1⟩
              clear CN5 CNR EN1 EG1 ES1
              go_wp2_with (first
                | (go_at_call 146; (with_reducible refine (CV.out _ BWq.out).mono ?_); rintro e W5 ⟨a5, c5, rfl, i5, b5⟩; have B5 : Hid (Below W2.heap.size W2 W5) := HBq.out.trans (b5.mono HBq.out.size); have O5 := Lib.hid (HOq.out.below b5); have I5 := Lib.hid i5; have CE5 := Lib.hid (containsEmp_any W2.heap.size (W2.heap.size + 1) W2.heap.size was _ ((nx : Int) :: vars) W5 O5.out I5.out HAL.out HVV.out); rw [empty_any, ANY] at CE5; clear b5 i5)
                | (go_at_call 34; (with_reducible refine CE5.out.mono ?_); rintro e w' ⟨rfl, rfl⟩)
                | (go_at_call 145; (with_reducible refine (CN6.out _ B5.out O5.out).mono ?_); rintro e W7 ⟨rfl, b7⟩))
              go_ret2
              exact ⟨BW2.out.trans ((B5.out.trans b7).mono BW2.out.size), .inr ⟨HRES.out, rfl⟩⟩
            | some ks =>
              have CN6 : Hid (∀ W5, Below W2.heap.size W2 W5 → OutAt W5 W2.heap.size (W2.heap.size + 1) W2.heap.size was → Calls Tryz.prog 145 #[.agg #[.int .i64 nx, .slice a0 coef.length c0, .slice a1 vars.length c1, .int .i64 rel, .int .i64 c], .slice (some ⟨BO, 0, none⟩) ds.length ds.length, .func (.func 35) #[] #[.pointer (some ⟨W2.heap.size + 1, 0, none⟩)]] W5 fun e W' => e = .returned (.bool true) ∧ Below W2.heap.size W5 W' ∧ Stay W5 W' W2.heap.size ∧ OutAt W' W2.heap.size (W2.heap.size + 1) W2.heap.size (keepsL ks was)) := fun W5 hb ho =>
                (CN5.out W5 hb ho).mono fun e W' h => by
                  obtain ⟨hb1, hs1, ⟨ks', hk, he, ho'⟩ | ⟨hk, _⟩⟩ := h
                  · injection hk with hk; subst hk; exact ⟨he, hb1, hs1, ho'⟩
                  · cases hk
              have EG2 := Lib.hid (EG1.out ks rfl)
              have ES2 := Lib.hid (ES1.out ks rfl)
              have HKL : Hid ((keepsL ks was).length = was.length) := keepsL_len ks was
              clear CN5 CNR EN1 EG1 ES1
              generalize keepsL ks was = fin at *
              have HV2 : Hid (∀ v ∈ ((nx : Int) :: vars), 0 ≤ v ∧ v.toNat < fin.length) := fun v hv => by rw [HKL.out]; exact HVV.out v hv
              cases ANY2 : anyNil ((nx : Int) :: vars) fin with
              | true =>
                have HRES := Lib.hid (EG2.out ANY2)
                clear EG2 ES2
                go_wp2_with (first
                  | (go_at_call 146; (with_reducible refine (CV.out _ BWq.out).mono ?_); rintro e W5 ⟨a5, c5, rfl, i5, b5⟩; have B5 : Hid (Below W2.heap.size W2 W5) := HBq.out.trans (b5.mono HBq.out.size); have O5 := Lib.hid (HOq.out.below b5); have I5 := Lib.hid i5; have CE5 := Lib.hid (containsEmp_any W2.heap.size (W2.heap.size + 1) W2.heap.size was _ ((nx : Int) :: vars) W5 O5.out I5.out HAL.out HVV.out); rw [empty_any, ANY] at CE5; clear b5 i5)
                  | (go_at_call 34; (with_reducible refine CE5.out.mono ?_); rintro e w' ⟨rfl, rfl⟩)
                  | (go_at_call 145; (with_reducible refine (CN6.out _ B5.out O5.out).mono ?_); rintro e W7 ⟨rfl, b7, s7, o7⟩; have CE7 := Lib.hid (containsEmp_any W2.heap.size (W2.heap.size + 1) W2.heap.size fin _ ((nx : Int) :: vars) W7 o7 (I5.out.stayO O5.out s7) HAL.out HV2.out); rw [empty_any, ANY2] at CE7; clear CE5)
                  | (go_at_call 34; (with_reducible refine CE7.out.mono ?_); rintro e w' ⟨rfl, rfl⟩))
                go_ret2
                exact ⟨BW2.out.trans ((B5.out.trans b7).mono BW2.out.size), .inr ⟨HRES.out, rfl⟩⟩
              | false =>
                have HRES := Lib.hid (ES2.out ANY2)
                clear EG2 ES2
                go_wp2_with (first
                  | (go_at_call 146; (with_reducible refine (CV.out _ BWq.out).mono ?_); rintro e W5 ⟨a5, c5, rfl, i5, b5⟩; have B5 : Hid (Below W2.heap.size W2 W5) := HBq.out.trans (b5.mono HBq.out.size); have O5 := Lib.hid (HOq.out.below b5); have I5 := Lib.hid i5; have CE5 := Lib.hid (containsEmp_any W2.heap.size (W2.heap.size + 1) W2.heap.size was _ ((nx : Int) :: vars) W5 O5.out I5.out HAL.out HVV.out); rw [empty_any, ANY] at CE5; clear b5 i5)
                  | (go_at_call 34; (with_reducible refine CE5.out.mono ?_); rintro e w' ⟨rfl, rfl⟩)
                  | (go_at_call 145; (with_reducible refine (CN6.out _ B5.out O5.out).mono ?_); rintro e W7 ⟨rfl, b7, s7, o7⟩; have CE7 := Lib.hid (containsEmp_any W2.heap.size (W2.heap.size + 1) W2.heap.size fin _ ((nx : Int) :: vars) W7 o7 (I5.out.stayO O5.out s7) HAL.out HV2.out); rw [empty_any, ANY2] at CE7; have hbx7 := o7.box.c0; clear CE5)
                  | (go_at_call 34; (with_reducible refine CE7.out.mono ?_); rintro e w' ⟨rfl, rfl⟩))
                go_ret2
                exact ⟨BW2.out.trans ((B5.out.trans b7).mono BW2.out.size), .inl ⟨fin, W2.heap.size, W2.heap.size + 1, W2.heap.size, HRES.out, rfl, BW2.out.size, o7⟩⟩
end Go.Proofs.YtajooiainglpmaaGreat
namespace Go.Proofs.YtajooiainglpmaaGreat
open Go.RowKit

theorem once_allW (p : PL) (va vb vv vds : Value) (ds : Ds) (w : World) (h0 : IsAt w va p.coef) (h1 : IsAt w vb p.vars) (h2 : IsAt w vv p.vs) (hd : DsAt w vds ds)
    (hf : p.Fine ds) (hdl : ds.length ≤ 4096) (hdm : ∀ d ∈ ds, d.length ≤ 4096) :
    Calls Tryz.prog 12 #[propV p.kind va vb p.rel p.c p.x p.y p.z vv, vds] w (RetOW (onceP p ds) w) := by
  obtain ⟨kind, rel, c, x, y, z, coef, vars, vs⟩ := p
  dsimp only at h0 h1 h2 ⊢
  have hk := hf.kind
  dsimp only at hk
  rcases hk with rfl | rfl | rfl | rfl
  · exact once1_c va vb vv vds rel c x y z coef vars vs ds w h0 h1 h2 hd hf hdl hdm
  · obtain ⟨nx, rfl⟩ := Int.eq_ofNat_of_zero_le (hf.vars x (by simp [PL.all, allL])).1
    obtain ⟨ny, rfl⟩ := Int.eq_ofNat_of_zero_le (hf.vars y (by simp [PL.all, allL])).1
    obtain ⟨nz, rfl⟩ := Int.eq_ofNat_of_zero_le (hf.vars z (by simp [PL.all, allL])).1
    exact once2_c va vb vv vds rel c nx ny nz coef vars vs ds w h0 h1 h2 hd hf hdl hdm
  · exact once3_c va vb vv vds rel c x y z coef vars vs ds w h0 h1 h2 hd hf hdl hdm
  · obtain ⟨nx, rfl⟩ := Int.eq_ofNat_of_zero_le (hf.vars x (by simp [PL.all, allL])).1
    exact once4_c va vb vv vds rel c nx y z coef vars vs ds w h0 h1 h2 hd hf hdl hdm
theorem once_all (p : PL) (va vb vv vds : Value) (ds : Ds) (w : World) (h0 : IsAt w va p.coef) (h1 : IsAt w vb p.vars) (h2 : IsAt w vv p.vs) (hd : DsAt w vds ds)
    (hf : p.Fine ds) (hdl : ds.length ≤ 4096) (hdm : ∀ d ∈ ds, d.length ≤ 4096) :
    Calls Tryz.prog 12 #[propV p.kind va vb p.rel p.c p.x p.y p.z vv, vds] w (RetO (onceP p ds) w) :=
  (once_allW p va vb vv vds ds w h0 h1 h2 hd hf hdl hdm).mono fun _ _ h => h.toO

theorem chk_fine (p : PL) (ds : Ds) (h : relChk p.kind p.rel p.c p.x p.y p.z p.coef p.vars p.vs ds.length = 0) (hd : ∀ d ∈ ds, d.length ≤ 4096) : p.Fine ds := by
  obtain ⟨kind, rel, c, x, y, z, coef, vars, vs⟩ := p
  dsimp only at h
  unfold relChk at h
  split at h
  · cases h
  · rename_i h1
    split at h
    · rename_i h2; exact absurd h h2.2
    · rename_i h2
      split at h
      · cases h
      · rename_i h3
        split at h
        · cases h
        · rename_i h4
          refine ⟨by dsimp only; omega, fun hk => ?_, fun hk => ?_, fun v hv => ?_⟩
          · dsimp only at hk ⊢
            have h5 : linChk coef vars rel c ds.length = 0 := by
              by_cases h6 : linChk coef vars rel c ds.length = 0
              · exact h6
              · exact absurd ⟨hk, h6⟩ h2
            exact chk_good h5 hd
          · dsimp only at hk ⊢
            have : ¬ (kind = 3 ∧ 64 < vs.length) := h3
            omega
          · simp only [Bool.not_eq_true, List.any_eq_false] at h4
            have := h4 v hv
            simp [outB] at this
            omega
end Go.Proofs.YtajooiainglpmaaGreat
namespace Go.Proofs.YtajooiainglpmaaGreat
open Go.RowKit

/-- w' is w but for block qb, the row's block, and new memory; the row lies where it did or in new memory -/
structure QSt (qb : Nat) (w : World) (pl : Value) (w' : World) (pl' : Value) : Prop where
  b0 : Below 0 w w'
  blk : ∀ b, b < w.heap.size → b ≠ qb → pl.ownBlock ≠ some b → w'.heap[b]? = w.heap[b]?
  row : ∀ b, pl'.ownBlock = some b → pl.ownBlock = some b ∨ w.heap.size ≤ b
theorem QSt.refl (qb : Nat) (w : World) (pl : Value) : QSt qb w pl w pl := ⟨Below.refl _ _, fun _ _ _ _ => rfl, fun _ h => .inl h⟩
theorem QSt.trans {qb : Nat} {w1 w2 w3 : World} {p1 p2 p3 : Value} (h : QSt qb w1 p1 w2 p2) (g : QSt qb w2 p2 w3 p3) : QSt qb w1 p1 w3 p3 where
  b0 := h.b0.trans g.b0
  blk := fun b hb hq hp => by
    refine (g.blk b (Nat.lt_of_lt_of_le hb h.b0.size) hq (fun e => ?_)).trans (h.blk b hb hq hp)
    rcases h.row b e with h1 | h1
    · exact hp h1
    · omega
  row := fun b hb => by
    rcases g.row b hb with h1 | h1
    · exact h.row b h1
    · exact .inr (Nat.le_trans h.b0.size h1)
theorem QSt.of_below {qb : Nat} {w w' : World} {pl : Value} (h : Below w.heap.size w w') : QSt qb w pl w' pl := ⟨h.mono (Nat.zero_le _), fun b hb _ _ => h.block b hb, fun _ h => .inl h⟩
theorem QSt.below {qb B : Nat} {w w' : World} {pl pl' : Value} (h : QSt qb w pl w' pl') (hq : B ≤ qb) (hp : ∀ b, pl.ownBlock = some b → B ≤ b) (hB : B ≤ w.heap.size) : Below B w w' :=
  ⟨h.b0.os, h.b0.tape, h.b0.output, h.b0.size, fun k hk => h.blk k (by omega) (by omega) (fun e => by have := hp k e; omega)⟩

/-- block qb is a queue: its places (in a row of its own), its constraints, its map -/
structure QAt (w : World) (qb mb B : Nat) (pl vp : Value) (L : List Int) : Prop where
  c0 : w.cell? ⟨qb, 0, none⟩ = some pl
  c1 : w.cell? ⟨qb, 1, none⟩ = some vp
  c2 : w.cell? ⟨qb, 2, none⟩ = some (.map (some mb))
  f0 : w.frozen? ⟨qb, 0, none⟩ = false
  own : w.ownsRow B 3 1 pl L.length (L.map (Value.int .i64))
  lq : qb < B
  lm : mb < B
theorem QAt.lt {w : World} {qb mb B : Nat} {pl vp : Value} {L : List Int} (h : QAt w qb mb B pl vp L) : qb < w.heap.size := World.block_lt_of_cell? w ⟨qb, 0, none⟩ h.c0
theorem QAt.below {w w' : World} {qb mb B : Nat} {pl vp : Value} {L : List Int} (h : QAt w qb mb B pl vp L) (hb : Below w.heap.size w w') : QAt w' qb mb B pl vp L :=
  have e := hb.block qb h.lt
  ⟨(World.cell?_of_block (a := ⟨qb, 0, none⟩) e).trans h.c0, (World.cell?_of_block (a := ⟨qb, 1, none⟩) e).trans h.c1, (World.cell?_of_block (a := ⟨qb, 2, none⟩) e).trans h.c2, (World.frozen?_of_block (a := ⟨qb, 0, none⟩) e).trans h.f0, own_below h.own hb, h.lq, h.lm⟩

theorem own_cap1 {w : World} {B e g n cap : Nat} {xs : List Value} (h : w.ownsRow B e 1 (.slice (some ⟨g, 0, none⟩) n cap) n xs) : n ≤ cap ∧ cap ≤ maxLen := by
  obtain ⟨a, c, he, h1, h2⟩ := SlAt.shape (SlAt.of_own h)
  cases he
  exact ⟨h1, h2⟩
theorem own_short {w : World} {B e g n m cap : Nat} {xs : List Value} (h : w.ownsRow B e 1 (.slice (some ⟨g, 0, none⟩) n cap) n xs) (hm : m ≤ n) : w.ownsRow B e 1 (.slice (some ⟨g, 0, none⟩) m cap) m (xs.take m) := by
  rcases h.2 with ⟨h', _⟩ | ⟨g', cap', cur, h', hb, hg, hnc, hcm, hcs, htake⟩
  · simp at h'
  · simp only [Value.slice.injEq, Option.some.injEq, Addr.mk.injEq, and_true, true_and] at h'
    obtain ⟨rfl, rfl⟩ := h'
    have hl := h.1
    refine ⟨by rw [List.length_take]; omega, .inr ⟨g, cap, cur, rfl, hb, hg, by omega, hcm, hcs, ?_⟩⟩
    rw [← htake, List.take_take, Nat.mul_one, Nat.mul_one]
    congr 1; omega
def wgt (kind : Int) (n1 n2 : Nat) : Int := if kind = 2 then 1000 else if kind = 3 then 100 + n2 else n1
set_option maxRecDepth 100000 in
theorem weight_c (kind : Int) (a0 a1 a2 : Option Addr) (n0 n1 n2 c0 c1 c2 : Nat) (rel c x y z : Int) (w : World) (h2 : n2 ≤ 4096) :
    Calls Tryz.prog 160 #[.agg #[.int .i64 kind, .slice a0 n0 c0, .slice a1 n1 c1, .int .i64 rel, .int .i64 c, .int .i64 x, .int .i64 y, .int .i64 z, .slice a2 n2 c2]] w
      fun e w' => e = .returned (.int .i64 (wgt kind n1 n2)) ∧ Below w.heap.size w w' := by
  have HZ : Hid (∀ o, Below w.heap.size w (w.alloc o)) := fun o => (Below.refl _ _).alloc (Nat.le_refl _) _
  by_cases k2 : kind = 2
  · have g2 : (kind == 2) = true := by simpa using k2
    have HR : Hid (wgt kind n1 n2 = 1000) := by show _ = _; unfold wgt; rw [if_pos k2]
    clear k2
    go_enter Tryz.func160, Tryz.ntmps160
    go_wp2
    go_ret
    exact ⟨ret_int HR.out.symm, HZ.out _⟩
  have g2 : (kind == 2) = false := by simpa using k2
  by_cases k3 : kind = 3
  · have g3 : (kind == 3) = true := by simpa using k3
    have HR : Hid (wgt kind n1 n2 = 100 + n2) := by show _ = _; unfold wgt; rw [if_neg k2, if_pos k3]
    clear k2 k3
    go_enter Tryz.func160, Tryz.ntmps160
    go_wp2
    go_ret
    exact ⟨ret_int HR.out.symm, HZ.out _⟩
  have g3 : (kind == 3) = false := by simpa using k3
  have HR : Hid (wgt kind n1 n2 = n1) := by show _ = _; unfold wgt; rw [if_neg k2, if_neg k3]
  clear k2 k3
  go_enter Tryz.func160, Tryz.ntmps160
  go_wp2
  go_ret
  exact ⟨ret_int HR.out.symm, HZ.out _⟩

theorem qlen_c (ao : Option Addr) (n c : Nat) (w : World) : Calls Tryz.prog 48 #[.slice ao n c] w fun e w' => e = .returned (.int .i64 n) ∧ w = w' := by
  go_enter Tryz.func48, Tryz.ntmps48
  go_wp2
  go_ret
  exact ⟨rfl, rfl⟩

@[go_sem] theorem ta_int (i : Int) (W : World) : (Instr.typeAssert (.iface 3 (.int .i64 i)) 20 3 false).run Tryz.prog W = .ok (.int .i64 i) W := by kernel_rfl
set_option maxRecDepth 100000 in
theorem qpush_c (qb mb B : Nat) (pl vp : Value) (L : List Int) (i : Int) (w : World) (h : QAt w qb mb B pl vp L) (hl : L.length ≤ 4096) (hB : B ≤ w.heap.size) :
    Calls Tryz.prog 158 #[.pointer (some ⟨qb, 0, none⟩), .iface 3 (.int .i64 i)] w
      fun e w' => (∃ u, e = .returned u) ∧ ∃ pl', QAt w' qb mb B pl' vp (L ++ [i]) ∧ QSt qb w pl w' pl' := by
  obtain ⟨i0, hi, hz0, hz1, hz2⟩ := info_parts Tryz.infoInt
  have H := Lib.hid h
  have c0 := h.c0
  have f0 := h.f0
  have ow := h.own
  obtain ⟨ao, cap, rfl, _⟩ := (SlAt.of_own ow).shape
  have ma : ∀ o, (w.alloc o).cell? ⟨qb, 0, none⟩ = some (.slice ao L.length cap) := fun o => Lib.cell?_alloc_some o c0
  have HA : Hid (∀ o, Below B w (w.alloc o).drew) := fun o => below_drewN ((Below.refl B w).alloc hB _) 1
  clear h
  go_enter Tryz.func158, Tryz.ntmps158
  go_wp2
  go_region_law
    ((refine step_append1 rfl (.tmp 7) (.tmp 10) 83 rfl B 3 i0 (.int .i64 0) 8 Tryz.underlying83 hi hz0 hz1 hz2 rfl _ _ _ rfl (World.ownsRow.drew (ow.alloc _)) (.int .i64 i) _ rfl ?_ rfl ?_ ?_ ?_; (· simp); (· omega); (· simp; omega); intro g1 cap1 w1 ow1 bw1 kw1 aw1; have mm := (((HA.out _).trans bw1).cell (p := ⟨qb, 0, none⟩) H.out.lq).trans H.out.c0; have mf := (((HA.out _).trans bw1).frozen (p := ⟨qb, 0, none⟩) H.out.lq).trans H.out.f0))
  all_goals
    go_end0
    refine ⟨⟨_, rfl⟩, .slice (some ⟨g1, 0, none⟩) (L.length + 1) cap1, ?_, ?_⟩
    · have hb := (HA.out _).trans bw1
      have e1 := (hb.cell (p := ⟨qb, 1, none⟩) H.out.lq).trans H.out.c1
      have e2 := (hb.cell (p := ⟨qb, 2, none⟩) H.out.lq).trans H.out.c2
      refine ⟨World.cell?_setCell_same _ _ _ mm, (World.cell?_setCell_other _ _ _ _ (by simp)).trans e1, (World.cell?_setCell_other _ _ _ _ (by simp)).trans e2, by rw [World.frozen?_setCell]; exact mf, ?_, H.out.lq, H.out.lm⟩
      rw [List.length_append, List.length_singleton, List.map_append]
      exact own_setCell ow1 (a := ⟨qb, 0, none⟩) H.out.lq _
    · have hb := (HA.out _).trans bw1
      refine ⟨(hb.mono (Nat.zero_le _)).setCell (p := ⟨qb, 0, none⟩) (Nat.zero_le _) _, fun b hbl hq hp => ?_, fun b hb1 => ?_⟩
      · rw [Below.heap_setCell _ _ _ _ hq, kw1 b (by simp [World.drew]; omega) hp]
        exact Below.heap_alloc w _ b hbl
      · simp [Value.ownBlock] at hb1
        subst hb1
        rcases aw1 with h | h
        · exact .inl h
        · right; rw [h]; simp [World.drew]

set_option maxRecDepth 100000 in
set_option maxHeartbeats 1600000 in
theorem qpop_c (qb mb B : Nat) (pl vp : Value) (L : List Int) (i : Int) (w : World) (h : QAt w qb mb B pl vp (L ++ [i])) (hl : L.length ≤ 4096) :
    Calls Tryz.prog 157 #[.pointer (some ⟨qb, 0, none⟩)] w
      fun e w' => e = .returned (.iface 3 (.int .i64 i)) ∧ ∃ pl', QAt w' qb mb B pl' vp L ∧ QSt qb w pl w' pl' := by
  have H := Lib.hid h
  have c0 := h.c0
  have f0 := h.f0
  have ow := h.own
  have hle : (L ++ [i]).length = L.length + 1 := by simp
  rw [hle] at ow
  obtain ⟨g, cap, rfl, hgb, hcells⟩ := owns_pos ow (by omega)
  have x0 := hcells L.length (by omega)
  rw [List.map_append, List.getElem?_append_right (by simp), List.length_map, Nat.sub_self] at x0
  simp only [List.map_cons, List.map_nil, List.getElem?_cons_zero] at x0
  have hcp := (own_cap1 ow)
  have HOW := Lib.hid ow
  clear h hcells ow hle
  go_enter Tryz.func157, Tryz.ntmps157
  go_wp2
  go_ret
  refine ⟨rfl, .slice (some ⟨g, 0, none⟩) L.length cap, ?_, ?_⟩
  · have e1 := H.out.c1
    have e2 := H.out.c2
    refine ⟨World.cell?_setCell_same _ _ _ c0, (World.cell?_setCell_other _ _ _ _ (by simp)).trans e1, (World.cell?_setCell_other _ _ _ _ (by simp)).trans e2, by rw [World.frozen?_setCell]; exact f0, ?_, H.out.lq, H.out.lm⟩
    have h1 := own_short HOW.out (Nat.le_succ L.length)
    rw [List.map_append, List.take_left' (by simp)] at h1
    exact own_setCell h1 (a := ⟨qb, 0, none⟩) H.out.lq _
  · refine ⟨(Below.refl 0 w).setCell (p := ⟨qb, 0, none⟩) (Nat.zero_le _) _, fun b hbl hq hp => Below.heap_setCell _ _ _ _ hq, fun b hb1 => .inl hb1⟩

def swapL (L : List Int) (i k : Nat) : List Int := (L.set i (L.getD k 0)).set k (L.getD i 0)
theorem swapL_len (L : List Int) (i k : Nat) : (swapL L i k).length = L.length := by simp [swapL]
set_option maxRecDepth 100000 in
theorem qswap_c (B : Nat) (pl : Value) (L : List Int) (i k : Nat) (w : World) (h : w.ownsRow B 3 1 pl L.length (L.map (Value.int .i64))) (hi : i < L.length) (hk : k < L.length) (hl : L.length ≤ 4097) :
    Calls Tryz.prog 159 #[pl, .int .i64 i, .int .i64 k] w
      fun e w' => (∃ u, e = .returned u) ∧ w'.ownsRow B 3 1 pl L.length ((swapL L i k).map (Value.int .i64)) ∧ ∀ qb, (pl.ownBlock ≠ some qb) → QSt qb w pl w' pl := by
  obtain ⟨g, cap, rfl, hgb, hcells⟩ := owns_pos h (by omega)
  have xi := hcells i (by omega)
  have xk := hcells k (by omega)
  rw [List.getElem?_map, List.getElem?_eq_getElem hi] at xi
  rw [List.getElem?_map, List.getElem?_eq_getElem hk] at xk
  simp only [Option.map_some] at xi xk
  have fi := h.frozenAt i
  have fk := h.frozenAt k
  have hcp := own_cap1 h
  have HOW := Lib.hid h
  have e : Hid (swapL L i k = (L.set i L[k]).set k L[i]) := by show _ = _; unfold swapL; rw [List.getD_eq_getElem?_getD, List.getD_eq_getElem?_getD, List.getElem?_eq_getElem hk, List.getElem?_eq_getElem hi]; rfl
  have j1 : (i : Int) < L.length := by omega
  have j2 : (k : Int) < L.length := by omega
  generalize hyi : L[i] = yi at *
  generalize hyk : L[k] = yk at *
  have hz : (w.setCell ⟨g, i, none⟩ (.int .i64 yk)).cell? ⟨g, k, none⟩ = some (.int .i64 yk) := by
    by_cases hik : i = k
    · subst hik; exact World.cell?_setCell_same _ _ _ xi
    · rw [World.cell?_setCell_other _ _ _ _ (fun he => hik (by injection he))]; exact xk
  clear h hcells hyi hyk
  go_enter Tryz.func159, Tryz.ntmps159
  go_wp2
  go_region
  all_goals
    go_end0
    refine ⟨⟨_, rfl⟩, ?_, fun qb hqb => ?_⟩
    · have h1 := (HOW.out.stored i (.int .i64 yk)).1
      have h2 := (h1.stored k (.int .i64 yi)).1
      rw [e.out, List.map_set, List.map_set]
      exact h2
    · refine ⟨(((Below.refl 0 w).setCell (p := ⟨g, i, none⟩) (Nat.zero_le _) _).setCell (p := ⟨g, k, none⟩) (Nat.zero_le _) _).drew, fun b hbl hq hp => ?_, fun b hb1 => .inl hb1⟩
      have hbg : b ≠ g := fun e => hp (by rw [e]; rfl)
      rw [show ((w.setCell ⟨g, i, none⟩ (.int .i64 yk)).setCell ⟨g, k, none⟩ (.int .i64 yi)).drew.heap[b]? = ((w.setCell ⟨g, i, none⟩ (.int .i64 yk)).setCell ⟨g, k, none⟩ (.int .i64 yi)).heap[b]? from rfl, Below.heap_setCell _ _ _ _ hbg, Below.heap_setCell _ _ _ _ hbg]
end Go.Proofs.YtajooiainglpmaaGreat
