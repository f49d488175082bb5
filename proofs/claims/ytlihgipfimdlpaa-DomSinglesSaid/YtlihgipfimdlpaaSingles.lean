/-
  The law DomSingles, walked.
-/
import Derived.Test.YtlihgipfimdlpaaHas
import Derived.Test.YtlihgipfimdlpaaDomF
import Derived.Test.YtlihgipfimdlpaaRefC
import Derived.Test.YtlihgipfimdlpaaPl6
namespace Go.Proofs.Ytlihgipfimdlpaa
open Go.RowKit

def remL (zs : List Int) : List Int := zs.map fun z => z.tmod 201
theorem remL_length (zs : List Int) : (remL zs).length = zs.length := by simp [remL]
theorem remL_ok (zs : List Int) : ∀ m ∈ remL zs, -200 ≤ m ∧ m ≤ 200 := by
  intro m hm
  obtain ⟨z, _, rfl⟩ := List.mem_map.1 hm
  have h1 := Int.lt_tmod_of_pos z (show (0 : Int) < 201 by decide)
  have h2 := Int.tmod_lt_of_pos z (show (0 : Int) < 201 by decide)
  exact ⟨by omega, by omega⟩

set_option maxRecDepth 100000 in
set_option maxHeartbeats 1600000 in
theorem domSingles_any (vl : Value) (zs : List Int) (w : World) (hl : SlAt w 1 vl zs.length (zs.map (Value.int .i16))) (hz : ∀ z ∈ zs, -32768 ≤ z ∧ z ≤ 32767) :
    Calls Try.prog 9 #[vl] w fun e w' => e = .returned (.bool true) ∧ Below w.heap.size w w' := by
  obtain ⟨ao, cap, rfl, _⟩ := hl.shape
  by_cases h1 : 60 < zs.length
  · go_enter Try.func9, Try.ntmps9
    go_wp2
    go_ret
    exact ⟨rfl, Below.refl _ _⟩
  have hmok := remL_ok zs
  have hN := joinAll_normal (remL zs) [] normal_nil
  have hnone := Lib.hid (singles_none (remL zs) hmok)
  obtain ⟨hs1, hs2, hs3⟩ := singles_size (remL zs) hmok
  rw [remL_length] at hs1 hs3
  have HCell : Hid (∀ k, (hk : k < zs.length) → ∃ b off, ao = some ⟨b, off, none⟩ ∧ b < w.heap.size ∧ zs.length ≤ cap ∧ w.cell? ⟨b, off + k, none⟩ = some (.int .i16 zs[k]) ∧ -32768 ≤ zs[k] ∧ zs[k] ≤ 32767 ∧ (remL zs)[k]'(by rw [remL_length]; exact hk) = zs[k].tmod 201 ∧ -200 ≤ zs[k].tmod 201 ∧ zs[k].tmod 201 ≤ 200) := fun k hk => by
    obtain ⟨b, off, c', he, hcap, _, hbs, hc⟩ := SlAt.pos hl (by omega)
    simp only [Value.slice.injEq, true_and] at he
    obtain ⟨rfl, rfl⟩ := he
    have := hc k (by omega)
    rw [List.getElem?_map, List.getElem?_eq_getElem hk] at this
    have hb := hz zs[k] (List.getElem_mem _)
    have e : (remL zs)[k]'(by rw [remL_length]; exact hk) = zs[k].tmod 201 := by simp [remL]
    have hb2 := hmok _ (List.getElem_mem (by rw [remL_length]; exact hk : k < (remL zs).length))
    rw [e] at hb2
    exact ⟨b, off, rfl, hbs, hcap, this, hb.1, hb.2, e, hb2.1, hb2.2⟩
  have CJ : Hid (∀ (A : List Rg) (m : Int) W v v2, A.length ≤ 201 → RgAt W v A → RgAt W v2 [(m, m)] → Calls Try.prog 29 #[v, v2] W (RetR (joinL A [(m, m)]) W)) := fun A m W v v2 h r1 r2 => join_c v v2 A _ W r1 r2 (by omega) (by simp)
  have CX : Hid (∀ (A : List Rg) (m : Int) W v v2, A.length ≤ 201 → RgAt W v A → RgAt W v2 [(m, m)] → Calls Try.prog 31 #[v, v2] W (RetR (minusL A [(m, m)]) W)) := fun A m W v v2 h r1 r2 => minus_c v v2 A _ W r1 r2 (by omega) (by simp)
  have CH : Hid (∀ k, (hk : k < (remL zs).length) → ∀ W v, RgAt W v (joinAll [] (remL zs)) → Calls Try.prog 23 #[v, .int .i64 (remL zs)[k]] W fun e w' => e = .returned (.bool true) ∧ Below W.heap.size W w') := fun k hk W v r => by
    have := has_c v _ (remL zs)[k] W r (by have := singles_len (remL zs); omega)
    rwa [singles_has _ hmok _ (List.getElem_mem _)] at this
  have CS : Hid (∀ W v, RgAt W v (joinAll [] (remL zs)) → Calls Try.prog 19 #[v] W fun e w' => e = .returned (.int .i64 (sizeL (norm (joinAll [] (remL zs))))) ∧ Below W.heap.size W w') := fun W v r => size_c v _ W r (by have := singles_len (remL zs); omega)
  have CR : Hid (∀ W v, RgAt W v (joinAll [] (remL zs)) → Calls Try.prog 20 #[v] W fun e w' => e = .returned (.int .i64 (sizeL (norm (joinAll [] (remL zs))))) ∧ Below W.heap.size W w') := fun W v r => refSize_c v _ W r (by have := singles_len (remL zs); omega)
  have hlr := remL_length zs
  clear hl hz
  generalize sizeL (norm (joinAll [] (remL zs))) = sz at *
  go_enter Try.func9, Try.ntmps9
  go_wp2
  go_loopw [3, 4] (fun v s wr => ∃ k : Nat, k ≤ zs.length ∧ s = .int .i64 k ∧ RgAt wr v (joinAll [] ((remL zs).take k)) ∧ Below w.heap.size w wr) (fun _ s _ => zs.length - (intOf s).toNat)
  case atStart => exact ⟨0, by omega, rfl, RgAt.empty 0, (Below.refl _ _).alloc (Nat.le_refl _) _⟩
  case round =>
    obtain ⟨k, hk, rfl, hr, hbel⟩ := hrel
    obtain ⟨av, cv, rfl, _⟩ := hr.shape
    have B1 := Lib.hid hbel
    have R1 := Lib.hid hr
    have hle := hbel.size
    clear hbel hr
    by_cases hlt : k < zs.length
    · obtain ⟨b, off, rfl, hbs, hcap, hc, hz1, hz2, he, hm1, hm2⟩ := HCell.out k hlt
      have hlen : ((joinAll [] ((remL zs).take k))).length ≤ 201 := singles_len _
      have CJk := Lib.hid (CJ.out (joinAll [] ((remL zs).take k)) (zs[k].tmod 201))
      have HNx : Hid (joinAll [] ((remL zs).take (k + 1)) = joinL (joinAll [] ((remL zs).take k)) [(zs[k].tmod 201, zs[k].tmod 201)]) := by
        show _ = _
        rw [take_next _ _ (by rw [hlr]; exact hlt), joinAll_snoc, he]
      clear he
      rw [← B1.out.cell (p := ⟨b, off + k, none⟩) hbs] at hc
      generalize hzk : zs[k] = z at *
      generalize hmm : z.tmod 201 = m at *
      generalize joinAll [] ((remL zs).take k) = A at *
      go_wp2_with (go_at_call 29; (refine (CJk.out _ _ _ hlen (SlAt.alloc R1.out _) (rgAt_lit2 _ (m, m) _)).mono ?_); rintro e W2 ⟨a2, c2, rfl, r2, b2⟩)
      have hb : Below w.heap.size w W2 := (B1.out.alloc hle _).trans (b2.mono (by simp; omega))
      exact ⟨⟨k + 1, by omega, by go_num, by rw [HNx.out]; exact r2, hb⟩, by simp [intOf]; omega⟩
    · obtain rfl : k = zs.length := by omega
      have e0 : (remL zs).take zs.length = remL zs := by rw [← hlr, List.take_length]
      rw [e0] at R1 ⊢
      clear e0
      generalize hJ : joinAll [] (remL zs) = J at *
      go_wp2
      go_loopw [6] (fun s wr' => ∃ k : Nat, k ≤ zs.length ∧ s = .int .i64 k ∧ RgAt wr' (.slice av J.length cv) J ∧ Below w.heap.size w wr') (fun s _ => zs.length - (intOf s).toNat)
      case atStart => exact ⟨0, by omega, rfl, R1.out, B1.out⟩
      case round =>
        obtain ⟨k, hk, rfl, hr, hbel⟩ := hrel
        have B2 := Lib.hid hbel
        have R2 := Lib.hid hr
        clear hbel hr
        by_cases hlt : k < zs.length
        · obtain ⟨b, off, rfl, hbs, hcap, hc, hz1, hz2, he, hm1, hm2⟩ := HCell.out k hlt
          have CHk := Lib.hid (CH.out k (by rw [hlr]; exact hlt))
          rw [he] at CHk
          clear he
          rw [← B2.out.cell (p := ⟨b, off + k, none⟩) hbs] at hc
          generalize hzk : zs[k] = z at *
          generalize hmm : z.tmod 201 = m at *
          go_wp2_with (go_at_call 23; (refine (CHk.out _ _ R2.out).mono ?_); rintro e W2 ⟨rfl, b2⟩)
          exact ⟨⟨k + 1, by omega, by go_num, R2.out.below b2, B2.out.trans (b2.mono B2.out.size)⟩, by simp [intOf]; omega⟩
        · go_wp2_with (first
            | (go_at_call 19; (with_reducible refine (CS.out _ _ R2.out).mono ?_); rintro e W2 ⟨rfl, b2⟩; have R3 := Lib.hid (R2.out.below b2); have B3 := Lib.hid (B2.out.trans (b2.mono B2.out.size)); clear b2)
            | (go_at_call 20; (with_reducible refine (CR.out _ _ R3.out).mono ?_); rintro e W3 ⟨rfl, b2⟩; have R4 := Lib.hid (R3.out.below b2); have B4 := Lib.hid (B3.out.trans (b2.mono B3.out.size)); clear b2))
          go_loopw [3, 8] (fun v s wr => ∃ k : Nat, k ≤ zs.length ∧ s = .int .i64 k ∧ RgAt wr v (minusAll J ((remL zs).take k)) ∧ Below w.heap.size w wr) (fun _ s _ => zs.length - (intOf s).toNat)
          case atStart => exact ⟨0, by omega, rfl, R4.out, B4.out⟩
          case round =>
            obtain ⟨k, hk, rfl, hr, hbel⟩ := hrel
            obtain ⟨av5, cv5, rfl, _⟩ := hr.shape
            have B5 := Lib.hid hbel
            have R5 := Lib.hid hr
            have hle := hbel.size
            clear hbel hr
            by_cases hlt : k < zs.length
            · obtain ⟨b, off, rfl, hbs, hcap, hc, hz1, hz2, he, hm1, hm2⟩ := HCell.out k hlt
              have hlen : (minusAll J ((remL zs).take k)).length ≤ 201 := singles_len2 _ _ hN
              have CXk := Lib.hid (CX.out (minusAll J ((remL zs).take k)) (zs[k].tmod 201))
              have HNx : Hid (minusAll J ((remL zs).take (k + 1)) = minusL (minusAll J ((remL zs).take k)) [(zs[k].tmod 201, zs[k].tmod 201)]) := by
                show _ = _
                rw [take_next _ _ (by rw [hlr]; exact hlt), minusAll_snoc, he]
              clear he
              rw [← B5.out.cell (p := ⟨b, off + k, none⟩) hbs] at hc
              generalize hzk : zs[k] = z at *
              generalize hmm : z.tmod 201 = m at *
              generalize minusAll J ((remL zs).take k) = A at *
              go_wp2_with (go_at_call 31; (refine (CXk.out _ _ _ hlen (SlAt.alloc R5.out _) (rgAt_lit2 _ (m, m) _)).mono ?_); rintro e W2 ⟨a2, c2, rfl, r2, b2⟩)
              have hb : Below w.heap.size w W2 := (B5.out.alloc hle _).trans (b2.mono (by simp; omega))
              exact ⟨⟨k + 1, by omega, by go_num, by rw [HNx.out]; exact r2, hb⟩, by simp [intOf]; omega⟩
            · obtain rfl : k = zs.length := by omega
              have e0 : minusAll J ((remL zs).take zs.length) = [] := by rw [← hlr, List.take_length]; exact hnone.out
              rw [e0] at R5 ⊢
              rw [show ([] : List Rg).length = 0 from rfl]
              rcases Nat.eq_zero_or_pos zs.length with h0 | h0
              · go_wp2
                go_ret
                exact ⟨ret_bool (by simp), B5.out⟩
              · have hz0 : ((zs.length : Int) == 0) = false := beq_eq_false_iff_ne.2 (by omega)
                have hsp := hs3 h0
                go_wp2
                go_ret
                exact ⟨ret_bool (by simp), B5.out⟩
end Go.Proofs.Ytlihgipfimdlpaa
