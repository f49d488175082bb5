/-
  The reference's Once of layer 15, walked.
  The law's own 'holds', walked.
-/
import Derived.Test.YtajooiainglpmaaGreatKlin6
import Derived.Test.YtajooiainglpmaaGreatKlin2
import Derived.Test.YtajooiainglpmaaGreatKlin5
import Derived.Test.YtajooiainglpmaaGreatKlib1
namespace Go.Proofs.YtajooiainglpmaaGreat
open Go.RowKit

theorem getD_at {α : Type} (l : List α) (n : Nat) (h : n < l.length) (x : α) : l.getD n x = l[n] := by
  rw [List.getD_eq_getElem?_getD, List.getElem?_eq_getElem h]; rfl
theorem goodL_but {coef vars : List Int} {ds : Ds} (h : GoodL coef vars ds) (k : Nat) : GoodL (coef.eraseIdx k) (vars.eraseIdx k) ds where
  len := by rw [List.length_eraseIdx, List.length_eraseIdx, h.len]
  le16 := Nat.le_trans (List.length_eraseIdx_le ..) h.le16
  coefs := fun c hc => h.coefs c (List.mem_of_mem_eraseIdx hc)
  vars := fun v hv => h.vars v (List.mem_of_mem_eraseIdx hv)
  doms := h.doms
theorem nd_zip {coef vars : List Int} {ds : Ds} (h : GoodL coef vars ds) (hn : vars.Nodup) : ∀ j k, k < j → (hj : j < (coef.zip vars).length) → (hk : k < (coef.zip vars).length) → (coef.zip vars)[k].2.toNat ≠ (coef.zip vars)[j].2.toNat := fun j k hlt hj hk e => by
  have hl := h.zip_len
  have hl2 := h.len
  rw [List.getElem_zip, List.getElem_zip] at e
  have h1 := h.vars _ (List.getElem_mem (show k < vars.length by omega))
  have h2 := h.vars _ (List.getElem_mem (show j < vars.length by omega))
  have e2 : vars[k]'(by omega) = vars[j]'(by omega) := by simp only at e; omega
  have h3 := List.pairwise_iff_getElem.1 hn k j (by omega) (by omega) hlt
  exact h3 e2

theorem IsAt.alloc {w : World} {v : Value} {zs : List Int} (h : IsAt w v zs) (o : Obj) : IsAt (w.alloc o) v zs := SlAt.alloc h o
theorem cell_al {w : World} {p : Addr} {v : Value} (h : w.cell? p = some v) : ∀ o, (w.alloc o).cell? p = some v := fun o => Lib.cell?_alloc_some o h

set_option maxRecDepth 100000 in
set_option maxHeartbeats 3200000 in
theorem refOnce_c (va vb vds : Value) (rel C : Int) (coef vars : List Int) (ds : Ds) (w : World) (h0 : IsAt w va coef) (h1 : IsAt w vb vars) (hd : DsAt w vds ds) (hg : GoodL coef vars ds) (hr : rel = 1 ∨ rel = 2 ∨ rel = 3)
    (hC : -1099511627778 ≤ C ∧ C ≤ 1099511627778) (hnz : ∀ c ∈ coef, c ≠ 0) (hdl : ds.length ≤ 4096) (hnd : vars.Nodup) :
    Calls Tryz.prog 38 #[.agg #[va, vb, .int .i64 rel, .int .i64 C], vds] w (RetO (onceL rel C ds (coef.zip vars)) w) := by
  obtain ⟨i0, hi, hz0, hz1, hz2⟩ := info_parts Tryz.infoRgs
  obtain ⟨i1, hj, hy0, hy1, hy2⟩ := info_parts Tryz.infoRg
  have H0 := Lib.hid h0
  have H1 := Lib.hid h1
  have HD := Lib.hid hd
  have HDL := Lib.hid hg.doms
  have hZ : Hid (Below w.heap.size w (w.alloc (.cells #[va, vb, .int .i64 rel, .int .i64 C] 28))) := (Below.refl _ _).alloc (Nat.le_refl _) _
  have hB0 : Hid (BoxL (w.alloc (.cells #[va, vb, .int .i64 rel, .int .i64 C] 28)) w.heap.size [va, vb, .int .i64 rel, .int .i64 C]) := BoxL.mk' _ #[va, vb, .int .i64 rel, .int .i64 C] _
  have HND := Lib.hid (nd_zip hg hnd)
  have CSM : Hid (∀ W, Below w.heap.size w W → Calls Tryz.prog 63 #[.agg #[va, vb, .int .i64 rel, .int .i64 C], vds] W fun e w' => e = .returned (.tuple #[.int .i64 (sLo ds (coef.zip vars)), .int .i64 (sHi ds (coef.zip vars)), .bool (allOk ds (coef.zip vars))]) ∧ Below W.heap.size W w') :=
    fun W h => refSums_c _ _ _ rel C coef vars ds W (h0.below h) (h1.below h) (hd.below h) hg
  have CWO : Hid (∀ (k : Nat) W, Below w.heap.size w W → Calls Tryz.prog 64 #[.agg #[va, vb, .int .i64 rel, .int .i64 C], .int .i64 (k : Int)] W fun e w' => ∃ a4 c4 a5 c5, e = .returned (.agg #[.slice a4 (coef.eraseIdx k).length c4, .slice a5 (vars.eraseIdx k).length c5, .int .i64 rel, .int .i64 C]) ∧
      IsAt w' (.slice a4 (coef.eraseIdx k).length c4) (coef.eraseIdx k) ∧ IsAt w' (.slice a5 (vars.eraseIdx k).length c5) (vars.eraseIdx k) ∧ Below W.heap.size W w') := fun k W h =>
    (without_c va vb rel C k coef vars W (h0.below h) (h1.below h) hg.len hg.le16).mono fun e w' ⟨v0, v1, he, i0, i1, hb⟩ => by
      rw [butL_all] at i0 i1
      obtain ⟨a4, c4, rfl, _⟩ := SlAt.shape i0
      obtain ⟨a5, c5, rfl, _⟩ := SlAt.shape i1
      exact ⟨a4, c4, a5, c5, he, i0, i1, hb⟩
  have CSU : Hid (allOk ds (coef.zip vars) = true → ∀ (k : Nat) v0 v1 W, Below w.heap.size w W → IsAt W v0 (coef.eraseIdx k) → IsAt W v1 (vars.eraseIdx k) → Calls Tryz.prog 63 #[.agg #[v0, v1, .int .i64 rel, .int .i64 C], vds] W fun e w' => e = .returned (.tuple #[.int .i64 (loS ds ((coef.zip vars).eraseIdx k)), .int .i64 (hiS ds ((coef.zip vars).eraseIdx k)), .bool true]) ∧ Below W.heap.size W w') := fun hok k v0 v1 W h i0 i1 => by
    have hz := zip_erase coef vars k hg.len
    have ho := allOk_erase ds _ k hok
    have := refSums_c v0 v1 vds rel C _ _ ds W i0 i1 (hd.below h) (goodL_but hg k)
    rw [hz] at this
    unfold sLo sHi at this
    simpa only [ho, if_true] using this
  have CFX : Hid (∀ (k : Nat) v0 v1 W, Below w.heap.size w W → IsAt W v0 (coef.eraseIdx k) → IsAt W v1 (vars.eraseIdx k) → Calls Tryz.prog 65 #[.agg #[v0, v1, .int .i64 rel, .int .i64 C], vds] W fun e w' => e = .returned (.bool (fixedB ds ((coef.zip vars).eraseIdx k))) ∧ Below W.heap.size W w') := fun k v0 v1 W h i0 i1 => by
    have := fixed_c v0 v1 vds rel C _ _ ds W i0 i1 (hd.below h) (goodL_but hg k)
    rwa [zip_erase coef vars k hg.len] at this
  have CST : Hid (∀ (k : Nat) (cf x lo hi : Int) (one : Bool) W, Below w.heap.size w W → k < (coef.zip vars).length → (∀ hk, ((coef.zip vars)[k]'hk).1 = cf) → -200 ≤ x → x ≤ 200 → Calls Tryz.prog 66 #[.agg #[va, vb, .int .i64 rel, .int .i64 C], .int .i64 k, .int .i64 x, .int .i64 lo, .int .i64 hi, .bool one] W fun e w' => e = .returned (.bool (staysR rel C cf lo hi one x)) ∧ Below W.heap.size W w') := fun k cf x lo hi one W h hk hcf hx1 hx2 => by
    have hkc : k < coef.length := by have := hg.zip_len; omega
    have hcf' : coef[k] = cf := by have := hcf hk; rw [List.getElem_zip] at this; exact this
    have hcc := hg.coefs _ (List.getElem_mem hkc)
    rw [hcf'] at hcc
    exact stays_c va vb rel C coef k cf x lo hi one W (h0.below h) hkc hcf' hcc ⟨hx1, hx2⟩ hr hC
  have HNW : Hid (allOk ds (coef.zip vars) = true → ∀ k, (hk : k < (coef.zip vars).length) → leftR (norm (domOf ds (coef.zip vars)[k].2)) (fun x => !staysR rel C (coef.zip vars)[k].1 (loS ds ((coef.zip vars).eraseIdx k)) (hiS ds ((coef.zip vars).eraseIdx k)) (fixedB ds ((coef.zip vars).eraseIdx k)) x) = narrowAt rel C ds (loS ds (coef.zip vars)) (hiS ds (coef.zip vars)) (coef.zip vars)[k]) :=
    fun hok k hk => left_narrow rel C hr ds _ k hk (fun p hp => hnz _ (List.of_mem_zip (hp : (p.1, p.2) ∈ coef.zip vars)).1) hok
  obtain ⟨a0, c0, rfl, _⟩ := IsAt.shape h0
  obtain ⟨a1, c1, rfl, _⟩ := IsAt.shape h1
  obtain ⟨a2, c2, rfl, _⟩ := hd.shape
  have HC := Lib.hid (row_facts h0 h1 hd hg)
  have hn := Lib.hid hg.len
  have hn2 := Lib.hid hg.zip_len
  have hn16 := hg.le16
  have hzn : coef.zip vars = [] ↔ vars = [] := by
    rw [← List.length_eq_zero_iff, ← List.length_eq_zero_iff, hg.zip_len, hg.len]
  have HZN := Lib.hid hzn
  have HVD : Hid (vars ≠ [] → 0 < ds.length) := fun h => by
    obtain ⟨v, hv⟩ := List.exists_mem_of_ne_nil _ h
    have := hg.vars v hv
    omega
  clear h0 h1 hd hg hzn hnz hnd
  generalize hps : coef.zip vars = ps at *
  clear hps
  go_enter Tryz.func38, Tryz.ntmps38
  go_wp2
  go_loopw [6, 7] (fun o s wr => ∃ k : Nat, ∃ us : List Value, k ≤ ds.length ∧ s = .int .i64 k ∧ Hid (DsApp wr (w.heap.size + 1) o ((ds.take k).map norm) us) ∧ Hid (Below w.heap.size w wr) ∧ Hid (BoxL wr w.heap.size [.slice a0 coef.length c0, .slice a1 vars.length c1, .int .i64 rel, .int .i64 C]) ∧ w.heap.size + 1 ≤ wr.heap.size) (fun _ s _ => ds.length - (intOf s).toNat)
  case atStart =>
    refine ⟨0, [], by omega, rfl, ?_, ?_, ?_, by simp⟩
    · refine Lib.hid (DsApp.nil ?_)
      have h := World.ownsRow_made (w.alloc (.cells #[.slice a0 coef.length c0, .slice a1 vars.length c1, .int .i64 rel, .int .i64 C] 28)) #[] 0 (base := (w.alloc (.cells #[.slice a0 coef.length c0, .slice a1 vars.length c1, .int .i64 rel, .int .i64 C] 28)).heap.size) (e := 22) (size := 1) (Nat.le_refl _) (by decide) rfl
      rw [show (w.alloc (.cells #[.slice a0 coef.length c0, .slice a1 vars.length c1, .int .i64 rel, .int .i64 C] 28)).heap.size = w.heap.size + 1 by simp] at h
      exact h
    · refine Lib.hid ?_
      exact hZ.out.alloc (by simp) _
    · refine Lib.hid ?_
      exact hB0.out.below ((Below.refl (w.heap.size + 1) _).alloc (by simp) _) (Nat.lt_succ_self _)
  case round =>
    obtain ⟨k, us, hk, rfl, HO, HB, HL, hsz⟩ := hrel
    clear hZ hB0
    by_cases hlt : k < ds.length
    · obtain ⟨b, off, ao, cap, rfl, q1, q2, _, hc, hrg⟩ := (HD.out).get k hlt
      have j1 : (k : Int) < ds.length := by omega
      rw [← HB.out.cell (p := ⟨b, off + k, none⟩) q2] at hc
      have CN := Lib.hid (refNorm_n _ ds[k] wr (hrg.below HB.out) (HDL.out _ (List.getElem_mem hlt)))
      have HST : Hid ((ds.take (k + 1)).map norm = (ds.take k).map norm ++ [norm ds[k]]) := by
        show _ = _
        rw [List.take_succ_eq_append_getElem hlt, List.map_append]; rfl
      have hOl : ((ds.take k).map norm).length ≤ 4096 := by rw [List.length_map, List.length_take]; omega
      have hle := HB.out.size
      clear hrg
      generalize (ds.take k).map norm = O at *
      generalize ds[k] = d at *
      obtain ⟨oa, oc, rfl, _⟩ := (SlAt.of_own HO.out.2.1).shape
      go_wp2_with (first
        | (go_at_call 29; (with_reducible refine CN.out.mono ?_); rintro e W3 ⟨a3, c3, rfl, r3, b3, n3⟩; have HO3 := Lib.hid (HO.out.below b3); have HAP := Lib.hid (apart_made HO.out.2.1 n3); have R3 := Lib.hid r3; have B3 := Lib.hid (HB.out.trans (b3.mono hle)); have L3 := Lib.hid (HL.out.below b3 (by omega)); have hle3 := b3.size; clear b3 r3 n3)
        | (at_builtin; refine wpList_append1L rfl (.tmp 28) (.tmp 34) 33 rfl (w.heap.size + 1) 22 i0 (.slice none 0 0) 24 Tryz.underlying33 hi hz0 hz1 hz2 rfl _ _ _ rfl HO3.out.2.1 _ rfl rfl (by omega) (by omega) ?_; intro g1 cap1 w1 o1 bw kw gw))
      refine ⟨⟨k + 1, us ++ [.slice a3 (norm d).length c3], by omega, by go_num, ?_, ?_, ?_, ?_⟩, by simp [intOf]; omega⟩
      · rw [HST.out]; exact Lib.hid (HO3.out.push R3.out (fun _ => HAP.out) o1 kw gw)
      · exact Lib.hid (B3.out.trans (bw.mono (by omega)))
      · exact Lib.hid (L3.out.below bw (by omega))
      · have := bw.size; omega
    · obtain rfl : k = ds.length := by omega
      rw [List.take_length] at HO
      have HOO := Lib.hid HO.out.own
      have hmn := Lib.hid (show (ds.map norm).length = ds.length by simp)
      have HGN : Hid (∀ j : Nat, (ds.map norm).getD j [] = norm (ds.getD j [])) := fun j => getD_map_norm ds j
      clear HO
      obtain ⟨oa, oc, rfl, _⟩ := HOO.out.at.shape
      obtain ⟨l1, _⟩ := HL.out.get 1 rfl
      obtain ⟨l2, _⟩ := HL.out.get 2 rfl
      obtain ⟨l3, _⟩ := HL.out.get 3 rfl
      obtain ⟨l0, _⟩ := HL.out.get 0 rfl
      by_cases hv0 : vars = []
      · have hvl : ((vars.length : Int) == 0) = true := by rw [hv0]; rfl
        have hpn := HZN.out.2 hv0
        have HRE : Hid (onceL rel C ds ps = if holdsS rel C 0 = false then none else some (ds.map norm)) := by
          show _ = _
          rw [hpn]
          unfold onceL
          rw [if_pos (show allOk ds [] = true from rfl)]
          have := says_nil rel C ds
          by_cases h : holdsS rel C 0 = false
          · rw [if_pos h, if_pos ⟨rfl, this.2 h⟩]
          · rw [if_neg h, if_neg (fun x => h (this.1 x.2))]; rfl
        clear hpn CSM CWO CSU CFX CST HNW HND HC
        generalize onceL rel C ds ps = RES at *
        unfold holdsS at HRE
        have z1 : (C == 0) = decide (C = 0) := rfl
        by_cases hc0 : C = 0
        · subst hc0
          rcases hr with rfl | rfl | rfl
          · have HR2 : Hid (RES = some (ds.map norm)) := HRE.out
            clear HRE
            go_wp2
            go_ret2
            exact ⟨HB.out, .inl ⟨ds.map norm, _, _, HR2.out, (by first | rfl | (rw [hmn.out]; rfl)), HOO.out.at⟩⟩
          · have HR2 : Hid (RES = none) := HRE.out
            clear HRE
            go_wp2
            go_ret2
            exact ⟨HB.out, .inr ⟨HR2.out, rfl⟩⟩
          · have HR2 : Hid (RES = some (ds.map norm)) := HRE.out
            clear HRE
            go_wp2
            go_ret2
            exact ⟨HB.out, .inl ⟨ds.map norm, _, _, HR2.out, (by first | rfl | (rw [hmn.out]; rfl)), HOO.out.at⟩⟩
        · have q1 : (C == 0) = false := beq_eq_false_iff_ne.2 hc0
          have q2 : (C != 0) = true := by simpa using hc0
          have q3 : decide ((0 : Int) = C) = false := by simp; omega
          rcases hr with rfl | rfl | rfl
          · have HR2 : Hid (RES = none) := by show _ = _; rw [HRE.out]; simp [q3]
            clear HRE q3 hc0 z1
            go_wp2
            go_ret2
            exact ⟨HB.out, .inr ⟨HR2.out, rfl⟩⟩
          · have HR2 : Hid (RES = some (ds.map norm)) := by show _ = _; rw [HRE.out]; simp; omega
            clear HRE q3 hc0 z1
            go_wp2
            go_ret2
            exact ⟨HB.out, .inl ⟨ds.map norm, _, _, HR2.out, (by first | rfl | (rw [hmn.out]; rfl)), HOO.out.at⟩⟩
          · by_cases hlt0 : C < 0
            · have HR2 : Hid (RES = none) := by show _ = _; rw [HRE.out]; simp; omega
              clear HRE q3 hc0 z1
              go_wp2
              go_ret2
              exact ⟨HB.out, .inr ⟨HR2.out, rfl⟩⟩
            · have HR2 : Hid (RES = some (ds.map norm)) := by show _ = _; rw [HRE.out]; simp; omega
              clear HRE q3 hc0 z1
              go_wp2
              go_ret2
              exact ⟨HB.out, .inl ⟨ds.map norm, _, _, HR2.out, (by first | rfl | (rw [hmn.out]; rfl)), HOO.out.at⟩⟩
      · have hvl : ((vars.length : Int) == 0) = false := beqf (by have := List.length_pos_iff.2 hv0; omega)
        have hpn : ¬ ps = [] := fun h => hv0 (HZN.out.1 h)
        have CSM1 := Lib.hid (CSM.out wr HB.out)
        have hdp := HVD.out hv0
        clear CSM HZN HVD hv0
        cases hA : allOk ds ps with
        | false =>
          have HRE : Hid (onceL rel C ds ps = none) := by
            show _ = _
            unfold onceL; rw [if_neg (by rw [hA]; simp)]
          rw [hA] at CSM1
          clear CWO CSU CFX CST HNW HND HC hA
          go_wp2_with (go_at_call 63; (with_reducible refine CSM1.out.mono ?_); rintro e W1 ⟨rfl, bb⟩; have B1 := Lib.hid (HB.out.trans (bb.mono HB.out.size)); clear bb)
          go_ret2
          exact ⟨B1.out, .inr ⟨HRE.out, rfl⟩⟩
        | true =>
          have HRE : Hid (onceL rel C ds ps = onceGo rel C ds (loS ds ps) (hiS ds ps) ps (ds.map norm)) := by
            show _ = _
            unfold onceL; rw [if_pos hA, if_neg (fun h => hpn h.1)]
          rw [hA] at CSM1
          have CSU2 := Lib.hid (CSU.out hA)
          have HNW2 := Lib.hid (HNW.out hA)
          clear CSU HNW hA hpn
          generalize ds.map norm = O at *
          obtain ⟨g, cg, ao0, cap0, he, hg0, _, hgl, _, _, _⟩ := HOO.out.get 0 (by rw [hmn.out]; exact hdp)
          simp only [Value.slice.injEq, true_and] at he
          obtain ⟨rfl, rfl⟩ := he
          rw [hmn.out] at HOO ⊢
          go_wp2_with (go_at_call 63; (with_reducible refine CSM1.out.mono ?_); rintro e W1 ⟨rfl, bb⟩; have B1 := Lib.hid (HB.out.trans (bb.mono HB.out.size)); have L1 := Lib.hid (HL.out.below bb (by omega)); have O1 := Lib.hid (HOO.out.below bb); have hl1 := bb.size; clear bb)
          clear HB HL HOO CSM1 l0 l1 l2 l3 hsz
          generalize onceL rel C ds ps = RES at *
          generalize loS ds ps = lo at *
          generalize hiS ds ps = hi at *
          go_loopw [11] (fun s wr => ∃ k : Nat, ∃ out : Ds, k ≤ ps.length ∧ s = .int .i64 k ∧ Hid (out.length = ds.length) ∧ Hid (DsOwn wr (w.heap.size + 1) (.slice (some ⟨g, 0, none⟩) ds.length oc) out) ∧ Hid (onceGo rel C ds lo hi (ps.drop k) out = RES) ∧ Hid (∀ j, k ≤ j → (hj : j < ps.length) → out.getD ps[j].2.toNat [] = norm (domOf ds ps[j].2)) ∧
            Hid (Below w.heap.size w wr) ∧ Hid (BoxL wr w.heap.size [.slice a0 coef.length c0, .slice a1 vars.length c1, .int .i64 rel, .int .i64 C]) ∧ W1.heap.size ≤ wr.heap.size) (fun s _ => ps.length - (intOf s).toNat)
          case atStart => exact ⟨0, O, by omega, rfl, hmn, O1, HRE.out.symm, fun j _ hj => HGN.out _, B1, L1, Nat.le_refl _⟩
          case round =>
            clear HRE HGN O1 B1 L1
            obtain ⟨k, out, hk, rfl, HOL, HOW, HRS, HIV, HB, HL, hsz⟩ := hrel
            obtain ⟨l1, _⟩ := HL.out.get 1 rfl
            obtain ⟨l2, _⟩ := HL.out.get 2 rfl
            obtain ⟨l3, _⟩ := HL.out.get 3 rfl
            obtain ⟨l0, _⟩ := HL.out.get 0 rfl
            by_cases hlt : k < ps.length
            · obtain ⟨b0, o0, b1, o1, b2, o2, n, ao, cap, cf, d, ⟨rfl, rfl, rfl⟩, ⟨q0, q1, q2⟩, ⟨qb0, qb1, qb2⟩, hnn, x0, x1, x2, x3, e1, e2, hdl', hc1, hc2⟩ := HC.out k hlt
              have j2 : (k : Int) < vars.length := by have := hn.out; have := hn2.out; omega
              have j3 : (n : Int) < ds.length := by omega
              have j4 : (k : Int) ≤ 16 := by have := hn2.out; omega
              have j5 : vars.length ≤ 16 := by have := hn.out; omega
              have hiv := HIV.out k (Nat.le_refl _) hlt
              have hnw := HNW2.out k hlt
              rw [e1] at hiv hnw
              simp only [Int.toNat_natCast, e2] at hiv hnw
              have hln : n < out.length := by have := HOL.out; omega
              have hon : out[n] = norm d := by rw [← hiv, getD_at _ _ hln]
              have CW2 := Lib.hid (CWO.out k wr HB.out)
              have CS2 := Lib.hid (CSU2.out k)
              have CF2 := Lib.hid (CFX.out k)
              obtain ⟨st, hst⟩ : ∃ st : Int → Bool, ∀ x, st x = staysR rel C cf (loS ds (ps.eraseIdx k)) (hiS ds (ps.eraseIdx k)) (fixedB ds (ps.eraseIdx k)) x := ⟨_, fun _ => rfl⟩
              have CT2 : Hid (∀ (x : Int) W, Below w.heap.size w W → -200 ≤ x → x ≤ 200 → Calls Tryz.prog 66 #[.agg #[.slice (some ⟨b0, o0, none⟩) coef.length c0, .slice (some ⟨b1, o1, none⟩) vars.length c1, .int .i64 rel, .int .i64 C], .int .i64 k, .int .i64 x, .int .i64 (loS ds (ps.eraseIdx k)), .int .i64 (hiS ds (ps.eraseIdx k)), .bool (fixedB ds (ps.eraseIdx k))] W fun e w' => e = .returned (.bool (st x)) ∧ Below W.heap.size W w') := fun x W h g1 g2 => by
                rw [hst x]
                exact CST.out k cf x _ _ _ W h hlt (fun _ => by rw [e1]) g1 g2
              have hfun : (fun x => !staysR rel C cf (loS ds (ps.eraseIdx k)) (hiS ds (ps.eraseIdx k)) (fixedB ds (ps.eraseIdx k)) x) = fun x => !st x := by funext x; rw [hst]
              rw [hfun] at hnw
              have hgo : RES = if narrowAt rel C ds lo hi (cf, (n : Int)) = [] then none else onceGo rel C ds lo hi (ps.drop (k + 1)) (out.set n (narrowAt rel C ds lo hi (cf, (n : Int)))) := by
                rw [← HRS.out, List.drop_eq_getElem_cons hlt, e1]; rfl
              have hiv2 : Hid (∀ NW : List Rg, ∀ j, k + 1 ≤ j → (hj : j < ps.length) → (out.set n NW).getD ps[j].2.toNat [] = norm (domOf ds ps[j].2)) := fun NW j h1 h2 => by
                rw [getD_set, if_neg]
                · exact HIV.out j (by omega) h2
                · rintro ⟨h3, _⟩
                  refine HND.out j k (by omega) h2 hlt ?_
                  rw [e1]; simpa using h3
              have HGO := Lib.hid hgo
              obtain ⟨g', cg', ao', cap', he, _, _, _, hcn, hfn, hrn⟩ := HOW.out.get n hln
              simp only [Value.slice.injEq, Option.some.injEq, Addr.mk.injEq, and_true] at he
              obtain ⟨rfl, hjk, rfl⟩ := he
              clear hjk
              rw [hon] at hcn hrn
              have hDB : Hid (∀ r ∈ norm d, -200 ≤ r.1 ∧ r.1 ≤ r.2 ∧ r.2 ≤ 200) := norm_bounds d
              have hDl : (norm d).length ≤ 201 := norm_len d
              have hDs : sizeL (norm d) ≤ 401 := by unfold norm; rw [sizeL_canon]; exact (cnt_nonneg _ 401 (-200)).2
              rw [← HB.out.cell (p := ⟨b1, o1 + k, none⟩) qb1] at x1
              have HGL : Hid (∀ j, (goneL (fun x => !st x) ((norm d).take j)).length ≤ 402) := fun j => by
                have h1 := goneL_len (fun x => !st x) ((norm d).take j) (fun r hr => (hDB.out r (List.mem_of_mem_take hr)).2.1)
                have h2 := sizeL_bounds ((norm d).take j) (-200) (by decide) ((norm_normal d).take j)
                omega
              have HGA : Hid ((goneL (fun x => !st x) (norm d)).length ≤ 401) := by
                have h1 := goneL_len (fun x => !st x) (norm d) (fun r hr => (hDB.out r hr).2.1)
                show _ ≤ _
                omega
              have HNW3 := Lib.hid hnw
              have HRN := Lib.hid hrn
              have HX1 := Lib.hid x1
              have HCN := Lib.hid (And.intro hcn hfn)
              clear hiv hnw hon hst hfun hgo x0 x2 x3 e1 e2 hrn HIV HRS
              generalize loS ds (ps.eraseIdx k) = LO at *
              generalize hiS ds (ps.eraseIdx k) = HI at *
              generalize fixedB ds (ps.eraseIdx k) = ON at *
              generalize narrowAt rel C ds lo hi (cf, (n : Int)) = NW at *
              generalize norm d = D at *
              have hgw : g < wr.heap.size := World.block_lt_of_cell? wr _ hcn
              clear hcn hfn x1
              go_wp2_with (first
                | (go_at_call 64; (with_reducible refine CW2.out.mono ?_); rintro e W2 ⟨a4, c4, a5, c5, rfl, i4, i5, bb⟩; have B2 := Lib.hid (HB.out.trans (bb.mono HB.out.size)); have I4 := Lib.hid i4; have I5 := Lib.hid i5; have L2 := Lib.hid (HL.out.below bb (by omega)); have Q2 := Lib.hid bb; have hs2 := bb.size; clear bb i4 i5)
                | (go_at_call 63; (with_reducible refine (CS2.out _ _ _ (B2.out.alloc B2.out.size _) (I4.out.alloc _) (I5.out.alloc _)).mono ?_); rintro e W4 ⟨rfl, bb⟩; have B4 := Lib.hid ((B2.out.alloc B2.out.size _).trans (bb.mono (B2.out.alloc B2.out.size _).size)); have J4 := Lib.hid ((I4.out.alloc _).below bb); have J5 := Lib.hid ((I5.out.alloc _).below bb); have M4 := Lib.hid ((BoxL.mk' W2 #[.slice a4 (coef.eraseIdx k).length c4, .slice a5 (vars.eraseIdx k).length c5, .int .i64 rel, .int .i64 C] 28).below bb (by simp)); obtain ⟨m0, _⟩ := M4.out.get 0 rfl; obtain ⟨m1, _⟩ := M4.out.get 1 rfl; obtain ⟨m2, _⟩ := M4.out.get 2 rfl; obtain ⟨m3, _⟩ := M4.out.get 3 rfl; have Q4 := Lib.hid (Q2.out.trans (((Below.refl _ _).alloc (Nat.le_refl _) _).trans (bb.mono (by simp)) |>.mono hs2)); have hs4 := bb.size; clear bb)
                | (go_at_call 65; (with_reducible refine (CF2.out _ _ _ B4.out J4.out J5.out).mono ?_); rintro e W5 ⟨rfl, bb⟩; have Q5 := Lib.hid (Q4.out.trans (bb.mono Q4.out.size)); have A1 := cell_al (((HL.out.below Q5.out (by omega)).get 1 rfl).1); have A2 := cell_al ((Q5.out.cell (p := ⟨b1, o1 + k, none⟩) (World.block_lt_of_cell? wr _ HX1.out)).trans HX1.out); have A3 := cell_al ((Q5.out.cell (p := ⟨g, n, none⟩) hgw).trans HCN.out.1); clear bb))
              have B5 := Lib.hid (HB.out.trans (Q5.out.mono HB.out.size))
              have L5 := Lib.hid (HL.out.below Q5.out (by omega))
              have O5 := Lib.hid (HOW.out.below Q5.out)
              have R5 := Lib.hid (HRN.out.below Q5.out)
              have X5 := Lib.hid ((Q5.out.cell (p := ⟨b1, o1 + k, none⟩) (World.block_lt_of_cell? wr _ HX1.out)).trans HX1.out)
              have C5 := Lib.hid (And.intro ((Q5.out.cell (p := ⟨g, n, none⟩) hgw).trans HCN.out.1) ((Q5.out.frozen (p := ⟨g, n, none⟩) hgw).trans HCN.out.2))
              have hs5 := Q5.out.size
              clear A1 A2 A3 B2 B4 I4 I5 J4 J5 L2 M4 Q2 Q4 m0 m1 m2 m3 hs2 hs4 CW2 CS2 CF2 HRN HX1 HCN HOW l0 l1 l2 l3
              obtain ⟨wo, rfl⟩ : ∃ wo : World, wo = wr := ⟨_, rfl⟩
              go_loopw [17, 19] (fun go s wx => ∃ j : Nat, j ≤ D.length ∧ s = .int .i64 j ∧ wx.ownsRow W5.heap.size 32 2 go (goneL (fun x => !st x) (D.take j)).length (cellsR (goneL (fun x => !st x) (D.take j))) ∧ Hid (Below W5.heap.size W5 wx)) (fun _ s _ => D.length - (intOf s).toNat)
              case atStart => exact ⟨0, by omega, rfl, World.ownsRow_made W5 #[] 0 (Nat.le_refl _) (by decide) rfl, Lib.hid ((Below.refl _ _).alloc (Nat.le_refl _) _)⟩
              case round =>
                obtain ⟨j, hjl, rfl, hgo, HB6⟩ := hrel
                have hs6 := HB6.out.size
                by_cases hjt : j < D.length
                · obtain ⟨b3, o3, c3, he3, hcap3, hbs3, hc3⟩ := RgAt.at R5.out (by omega)
                  simp only [Value.slice.injEq, true_and] at he3
                  obtain ⟨rfl, rfl⟩ := he3
                  obtain ⟨d1, d2⟩ := hc3 j hjt
                  have D1 := Lib.hid d1
                  have D2 := Lib.hid d2
                  rw [← HB6.out.cell (p := ⟨b3, o3 + j * 2, none⟩) hbs3] at d1
                  rw [← HB6.out.cell (p := ⟨b3, o3 + j * 2 + 1, none⟩) hbs3] at d2
                  have j6 : (j : Int) < D.length := by omega
                  have hbd := hDB.out _ (List.getElem_mem hjt)
                  have HGS := Lib.hid (goneL_step (fun x => !st x) D j hjt)
                  have hgl := HGL.out j
                  clear hc3
                  generalize hr' : D[j] = r at *
                  clear hr'
                  obtain ⟨hb1, hb2, hb3⟩ := hbd
                  generalize goneL (fun x => !st x) (D.take j) = G0 at *
                  obtain ⟨ga, gc, rfl, _⟩ := (SlAt.of_own hgo).shape
                  have HGO0 := Lib.hid hgo
                  clear hgo
                  obtain ⟨wp, rfl⟩ : ∃ wp : World, wp = wr := ⟨_, rfl⟩
                  go_wp2
                  go_loopw [17, 20] (fun go s wx => ∃ m : Nat, m ≤ (r.2 + 1 - r.1).toNat ∧ s = .int .i64 (r.1 + m) ∧ wx.ownsRow W5.heap.size 32 2 go (G0 ++ runG (fun x => !st x) r.1 m).length (cellsR (G0 ++ runG (fun x => !st x) r.1 m)) ∧ Hid (Below W5.heap.size W5 wx)) (fun _ s _ => (201 - intOf s).toNat)
                  case atStart => exact ⟨0, by omega, by simp, by simpa [runG] using HGO0.out, HB6⟩
                  case round =>
                    clear HGO0 HB6 hs6 d1 d2
                    obtain ⟨m, hml, rfl, hgo, HB7⟩ := hrel
                    have hs7 := HB7.out.size
                    have d1 := (HB7.out.cell (p := ⟨b3, o3 + j * 2, none⟩) hbs3).trans D1.out
                    have d2 := (HB7.out.cell (p := ⟨b3, o3 + j * 2 + 1, none⟩) hbs3).trans D2.out
                    have hrl := runG_len (fun x => !st x) r.1 m
                    by_cases hmt : m < (r.2 + 1 - r.1).toNat
                    · obtain ⟨l0, _⟩ := (L5.out.below HB7.out (by omega)).get 0 rfl
                      obtain ⟨l1, _⟩ := (L5.out.below HB7.out (by omega)).get 1 rfl
                      obtain ⟨l2, _⟩ := (L5.out.below HB7.out (by omega)).get 2 rfl
                      obtain ⟨l3, _⟩ := (L5.out.below HB7.out (by omega)).get 3 rfl
                      have hle1 : r.1 + (m : Int) ≤ r.2 := by omega
                      have CT3 := Lib.hid (CT2.out (r.1 + m) wr (B5.out.trans (HB7.out.mono B5.out.size)) (by omega) (by omega))
                      have HRS : Hid (runG (fun x => !st x) r.1 (m + 1) = runG (fun x => !st x) r.1 m ++ (if st (r.1 + m) = true then [] else [(r.1 + (m : Int), r.1 + (m : Int))])) := by
                        show _ = _
                        rw [runG]
                        cases hq : st (r.1 + m) <;> simp
                      have hol : (G0 ++ runG (fun x => !st x) r.1 m).length ≤ 1000 := by rw [List.length_append]; omega
                      have HAS : Hid (G0 ++ runG (fun x => !st x) r.1 (m + 1) = (G0 ++ runG (fun x => !st x) r.1 m) ++ (if st (r.1 + m) = true then [] else [(r.1 + (m : Int), r.1 + (m : Int))])) := by
                        show _ = _
                        rw [HRS.out, List.append_assoc]
                      generalize G0 ++ runG (fun x => !st x) r.1 m = G1 at *
                      have hx1 : -200 ≤ r.1 + (m : Int) := by omega
                      have hx2 : r.1 + (m : Int) ≤ 200 := by omega
                      have HX : Hid (r.1 + (m : Int) + 1 = r.1 + ((m + 1 : Nat) : Int)) := by show _ = _; push_cast; omega
                      have hM : (201 - (r.1 + (m : Int) + 1)).toNat < (201 - (r.1 + (m : Int))).toNat := by omega
                      clear hrl HRS
                      generalize st (r.1 + (m : Int)) = sb at *
                      generalize r.1 + (m : Int) = x at *
                      cases sb
                      · go_wp2_with (first
                          | (go_at_call 66; (with_reducible refine CT3.out.mono ?_); rintro e W7 ⟨rfl, bb⟩; have go7 := own_below hgo bb; have Q7 := Lib.hid (HB7.out.trans (bb.mono hs7)); have hs8 := Q7.out.size; clear bb)
                          | (at_builtin; refine wpList_append2 rfl (.tmp 135) (.tmp 139) 22 rfl W5.heap.size 32 i1 (.agg #[.int .i64 0, .int .i64 0]) 16 Tryz.underlying22 hj hy0 hy1 hy2 rfl _ _ _ rfl go7 _ _ rfl rfl rfl rfl (by omega) hs8 ?_; intro v1 w1 ow bw _))
                        refine ⟨⟨m + 1, by omega, by rw [HX.out], ?_, Lib.hid (Q7.out.trans bw)⟩, hM⟩
                        rw [HAS.out, List.length_append, cellsR_append]
                        exact ow
                      · go_wp2_with (first
                          | (go_at_call 66; (with_reducible refine CT3.out.mono ?_); rintro e W7 ⟨rfl, bb⟩; have go7 := own_below hgo bb; have Q7 := Lib.hid (HB7.out.trans (bb.mono hs7)); have hs8 := Q7.out.size; clear bb))
                        refine ⟨⟨m + 1, by omega, by rw [HX.out], ?_, Q7⟩, hM⟩
                        rw [HAS.out]
                        simpa using go7
                    · obtain rfl : m = (r.2 + 1 - r.1).toNat := by omega
                      have hle1 : ¬ r.1 + ((r.2 + 1 - r.1).toNat : Int) ≤ r.2 := by omega
                      have HGS2 := Lib.hid (show goneL (fun x => !st x) (D.take (j + 1)) = G0 ++ runG (fun x => !st x) r.1 (r.2 + 1 - r.1).toNat from HGS.out)
                      clear hrl
                      generalize G0 ++ runG (fun x => !st x) r.1 (r.2 + 1 - r.1).toNat = G1 at *
                      generalize r.1 + ((r.2 + 1 - r.1).toNat : Int) = x at *
                      go_wp2
                      refine ⟨⟨j + 1, by omega, by go_num, ?_, HB7⟩, by simp [intOf]; omega⟩
                      rw [HGS2.out]; exact hgo
                · obtain rfl : j = D.length := by omega
                  rw [List.take_length] at hgo
                  have hgg5 : w.heap.size + 1 ≤ g := hg0
                  have hgw5 : g < W5.heap.size := by omega
                  obtain ⟨ga, gc, rfl, _⟩ := (SlAt.of_own hgo).shape
                  by_cases hG : goneL (fun x => !st x) D = []
                  · rw [leftR, if_pos hG] at HNW3
                    obtain rfl : NW = D := HNW3.out.symm
                    rw [hG] at hgo ⊢
                    have Q9 := HB6
                    have R9 := Lib.hid (R5.out.below Q9.out)
                    obtain ⟨l1, _⟩ := (L5.out.below Q9.out (by omega)).get 1 rfl; have x9 := (Q9.out.cell (p := ⟨b1, o1 + k, none⟩) (World.block_lt_of_cell? W5 _ X5.out)).trans X5.out; have c9 := (Q9.out.cell (p := ⟨g, n, none⟩) (by omega)).trans C5.out.1; have f9 := (Q9.out.frozen (p := ⟨g, n, none⟩) (by omega)).trans C5.out.2
                    clear HGA HGL hgo hG hDB HNW3
                    by_cases hnw : NW = []
                    · have hz : ((NW.length : Int) == 0) = true := by rw [hnw]; rfl
                      go_wp2
                      have B9 := Lib.hid (B5.out.trans (Q9.out.mono B5.out.size))
                      go_ret2
                      exact ⟨B9.out, .inr ⟨by rw [HGO.out, if_pos hnw], rfl⟩⟩
                    · have hz : ((NW.length : Int) == 0) = false := beqf (by have := List.length_pos_iff.2 hnw; omega)
                      go_wp2
                      have L9 := Lib.hid (L5.out.below Q9.out (by omega))
                      have O9 := Lib.hid (O5.out.below Q9.out)
                      have hb9 := Q9.out.size
                      have B9 := Lib.hid (B5.out.trans (Q9.out.mono B5.out.size))
                      refine ⟨⟨k + 1, out.set n NW, Nat.succ_le_of_lt hlt, by go_num, Lib.hid (by rw [List.length_set]; exact HOL.out), ?_, Lib.hid (by rw [HGO.out, if_neg hnw]), fun j h1 h2 => hiv2.out NW j h1 h2, Lib.hid (B9.out.setCell (p := ⟨g, n, none⟩) (by dsimp only; omega) _), Lib.hid (L9.out.far (a := ⟨g, n, none⟩) (by dsimp only; omega) _), by simp [World.setCell]; omega⟩, by simp [intOf]; omega⟩
                      refine Lib.hid ?_
                      have hh := O9.out
                      have hl := HOL.out
                      rw [← hl] at hh ⊢
                      exact DsOwn.set hh n hln R9.out
                  · rw [leftR, if_neg hG] at HNW3
                    have hGp : 0 < (goneL (fun x => !st x) D).length := List.length_pos_iff.2 hG
                    have hGL := glueL_len (goneL (fun x => !st x) D)
                    have CJ := Lib.hid (joined_c _ (goneL (fun x => !st x) D) wr (RgAt.own hgo) HGA.out (goneL_bnd _ D hDB.out))
                    have CN : Hid (∀ v W, RgAt W v (glueL (goneL (fun x => !st x) D)) → Calls Tryz.prog 29 #[v] W (RetR (norm (glueL (goneL (fun x => !st x) D))) W)) := fun v W h => refNorm_c v _ W h (by have := HGA.out; omega)
                    have CM : Hid (∀ v W, RgAt W v (norm (glueL (goneL (fun x => !st x) D))) → Below W5.heap.size W5 W → Calls Tryz.prog 21 #[.slice ao' D.length cap', v] W (RetR NW W)) := fun v W h hb => by
                      have hm := refMinus_c _ v D _ W (R5.out.below hb) h (by omega) (Nat.le_trans (norm_len _) (by omega))
                      rwa [HNW3.out] at hm
                    clear HGL hgo hG hDB HGA hGL
                    generalize norm (glueL (goneL (fun x => !st x) D)) = NG at *
                    generalize glueL (goneL (fun x => !st x) D) = JG at *
                    generalize goneL (fun x => !st x) D = G at *
                    have hGd : (0 : Int) < (G.length : Int) := by omega
                    by_cases hnw : NW = []
                    · have hz : ((NW.length : Int) == 0) = true := by rw [hnw]; rfl
                      go_wp2_with (first
                        | (go_at_call 67; (with_reducible refine CJ.out.mono ?_); rintro e W7 ⟨a7, c7, rfl, r7, b7⟩; have Q7 := Lib.hid (HB6.out.trans (b7.mono hs6)); have R7 := Lib.hid r7; clear b7 r7)
                        | (go_at_call 29; (with_reducible refine (CN.out _ _ R7.out).mono ?_); rintro e W8 ⟨a8, c8, rfl, r8, b8⟩; have Q8 := Lib.hid (Q7.out.trans (b8.mono Q7.out.size)); have R8 := Lib.hid r8; clear b8 r8)
                        | (go_at_call 21; (with_reducible refine (CM.out _ _ R8.out Q8.out).mono ?_); rintro e W9 ⟨a9, c9', rfl, r9, b9⟩; have Q9 := Lib.hid (Q8.out.trans (b9.mono Q8.out.size)); have R9 := Lib.hid r9; clear b9 r9; obtain ⟨l1, _⟩ := (L5.out.below Q9.out (by omega)).get 1 rfl; have x9 := (Q9.out.cell (p := ⟨b1, o1 + k, none⟩) (World.block_lt_of_cell? W5 _ X5.out)).trans X5.out; have c9 := (Q9.out.cell (p := ⟨g, n, none⟩) (by omega)).trans C5.out.1; have f9 := (Q9.out.frozen (p := ⟨g, n, none⟩) (by omega)).trans C5.out.2))
                      have B9 := Lib.hid (B5.out.trans (Q9.out.mono B5.out.size))
                      go_ret2
                      exact ⟨B9.out, .inr ⟨by rw [HGO.out, if_pos hnw], rfl⟩⟩
                    · have hz : ((NW.length : Int) == 0) = false := beqf (by have := List.length_pos_iff.2 hnw; omega)
                      go_wp2_with (first
                        | (go_at_call 67; (with_reducible refine CJ.out.mono ?_); rintro e W7 ⟨a7, c7, rfl, r7, b7⟩; have Q7 := Lib.hid (HB6.out.trans (b7.mono hs6)); have R7 := Lib.hid r7; clear b7 r7)
                        | (go_at_call 29; (with_reducible refine (CN.out _ _ R7.out).mono ?_); rintro e W8 ⟨a8, c8, rfl, r8, b8⟩; have Q8 := Lib.hid (Q7.out.trans (b8.mono Q7.out.size)); have R8 := Lib.hid r8; clear b8 r8)
                        | (go_at_call 21; (with_reducible refine (CM.out _ _ R8.out Q8.out).mono ?_); rintro e W9 ⟨a9, c9', rfl, r9, b9⟩; have Q9 := Lib.hid (Q8.out.trans (b9.mono Q8.out.size)); have R9 := Lib.hid r9; clear b9 r9; obtain ⟨l1, _⟩ := (L5.out.below Q9.out (by omega)).get 1 rfl; have x9 := (Q9.out.cell (p := ⟨b1, o1 + k, none⟩) (World.block_lt_of_cell? W5 _ X5.out)).trans X5.out; have c9 := (Q9.out.cell (p := ⟨g, n, none⟩) (by omega)).trans C5.out.1; have f9 := (Q9.out.frozen (p := ⟨g, n, none⟩) (by omega)).trans C5.out.2))
                      have L9 := Lib.hid (L5.out.below Q9.out (by omega))
                      have O9 := Lib.hid (O5.out.below Q9.out)
                      have hb9 := Q9.out.size
                      have B9 := Lib.hid (B5.out.trans (Q9.out.mono B5.out.size))
                      refine ⟨⟨k + 1, out.set n NW, Nat.succ_le_of_lt hlt, by go_num, Lib.hid (by rw [List.length_set]; exact HOL.out), ?_, Lib.hid (by rw [HGO.out, if_neg hnw]), fun j h1 h2 => hiv2.out NW j h1 h2, Lib.hid (B9.out.setCell (p := ⟨g, n, none⟩) (by dsimp only; omega) _), Lib.hid (L9.out.far (a := ⟨g, n, none⟩) (by dsimp only; omega) _), by simp [World.setCell]; omega⟩, by simp [intOf]; omega⟩
                      refine Lib.hid ?_
                      have hh := O9.out
                      have hl := HOL.out
                      rw [← hl] at hh ⊢
                      exact DsOwn.set hh n hln R9.out
            · obtain rfl : k = ps.length := by omega
              have hltv : ¬ ps.length < vars.length := by have := hn.out; have := hn2.out; omega
              clear CWO CSU2 CFX CST HNW2 HND HC
              go_wp2
              go_ret2
              refine ⟨HB.out, .inl ⟨out, some ⟨g, 0, none⟩, oc, ?_, ?_, ?_⟩⟩
              · rw [← HRS.out, List.drop_length]; rfl
              · rw [HOL.out]; rfl
              · have hl := HOL.out
                have hh := HOW.out.at
                rw [hl]; exact hh
end Go.Proofs.YtajooiainglpmaaGreat
namespace Go.Proofs.YtajooiainglpmaaGreat
open Go.RowKit

theorem sumX_bnd {coef vars : List Int} {ds : Ds} (hg : GoodL coef vars ds) (x : List Int) (hx : ∀ z ∈ x, -200 ≤ z ∧ z ≤ 200) : ∀ k, -320000000 ≤ sumX x ((coef.zip vars).take k) ∧ sumX x ((coef.zip vars).take k) ≤ 320000000 := fun k => by
  have hl : ((coef.zip vars).take k).length ≤ 16 := by
    rw [List.length_take, hg.zip_len]; have := hg.le16; omega
  have hc : ∀ p ∈ (coef.zip vars).take k, -100000 ≤ p.1 ∧ p.1 ≤ 100000 := fun p hp => hg.coefs _ (List.of_mem_zip (List.mem_of_mem_take hp : (p.1, p.2) ∈ coef.zip vars)).1
  have hxx : ∀ n, -200 ≤ x.getD n 0 ∧ x.getD n 0 ≤ 200 := fun n => by
    rw [List.getD_eq_getElem?_getD]
    cases h : x[n]? with
    | none => simp
    | some z => exact hx z (List.mem_of_getElem? h)
  have h1 := sum_take_bnd (fun p => p.1 * x.getD p.2.toNat 0) 20000000 _ (fun p hp => mul_bnd _ _ 100000 (hxx _) (hc p hp))
  unfold sumX
  constructor <;> omega

end Go.Proofs.YtajooiainglpmaaGreat
